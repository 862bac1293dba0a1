/- Towards the law ParserVoices, true for every text (no condition): one part of the proof. -/
import Derived.Test.YtgkhemnmcgicnaaGreatDoorG01
import Derived.Shelf.Strings.Builder1
import Derived.Shelf.Strings.Builder2
import Derived.Shelf.Strings.OnBuilder
import Derived.Shelf.Small.Strs
import Derived.Shelf.Strings.BuilderF
import Derived.Shelf.Strings.Builder2Cap
import Derived.Shelf.Strconv.Atoi
import Derived.Shelf.Strconv.Itoa0
import Derived.Shelf.Strconv.Itoa1
import Derived.Shelf.LaysM
import Derived.Shelf.Strconv.Itoa2
import Derived.Shelf.Strconv.Itoa3
import Derived.Shelf.Strconv.AtoiErrFast
import Derived.Shelf.Strconv.ParseIntEmpty
import Derived.Shelf.Strconv.AtoiFail
import Derived.Shelf.Strconv.Clone
import Derived.Shelf.Strconv.SyntaxError
import Derived.Shelf.LaysC
import Derived.Shelf.Strconv.ToError
import Derived.Shelf.Strconv.Lower
import Derived.Shelf.Strconv.ParseUint10
import Derived.Shelf.Strconv.ParseUint10Empty
import Derived.Shelf.Strconv.ParseUint10Any
import Derived.Shelf.Strconv.ParseInt10
import Derived.Shelf.Strconv.AtoiLong
import Derived.Shelf.Strconv.AtoiInnerAll
import Derived.Shelf.Strconv.RangeError
import Derived.Shelf.Strconv.ToErrorRange
import Derived.Shelf.Strconv.AtoiAll
import Derived.Shelf.Strings.Search1
import Derived.Shelf.Strings.Search2
import Derived.Shelf.Strings.Search3
import Derived.Shelf.Strings.Cut
import Derived.Shelf.Strings.Count
import Derived.Shelf.Strings.Shaped
import Derived.Shelf.Strings.Prefix
import Derived.Shelf.Strings.Split
import Derived.Shelf.Strings.SplitShaped
import Derived.Shelf.Bits.Mul64
import Derived.Shelf.Unicode.DecodeSlow
import Derived.Ground.Names2Prog
import Derived.Shelf.Slices.SearchI
import Derived.Shelf.Slices.Empties
import Derived.Test.YtgkhemnmcgicnaaGreatDoorProg
import Derived.Deep.RegionWith
import Derived.Deep.RegionHeld3
import Derived.Deep.AppendLies
import Derived.Deep.LoopGhost
import Derived.StillTail
import Derived.WalkMore
import Derived.Deep.QuietTactic
import Derived.BigQuiet
import Derived.StillTailTactics
import Derived.Lib.Slices
import Derived.Lib.Strings
namespace Go.Proofs
open Go.Shelf
def Tryz.lays169_ren : Go.Shelf.Ren := ⟨fun | 169 => 123 | n => n, fun | 70 => 198 | 9 => 9 | 0 => 0 | 72 => 200 | 37 => 54 | 127 => 234 | 3 => 3 | 5 => 5 | n => n, fun | n => n⟩
theorem Tryz.lays169 : Go.Proofs.Lays.n169 Tryz.prog Tryz.lays169_ren := {
 mixed := by kernel_rfl
 f169 := Tryz.func123.trans (congrArg some (by kernel_rfl))
 t0 := Tryz.underlying0
 a0 := Tryz.isAgg0
 z0 := Tryz.sizeOf0
 v0 := Tryz.zeroValue0
 t3 := Tryz.underlying3
 a3 := Tryz.isAgg3
 z3 := Tryz.sizeOf3
 v3 := Tryz.zeroValue3
 t9 := Tryz.underlying9
 a9 := Tryz.isAgg9
 z9 := Tryz.sizeOf9
 v9 := Tryz.zeroValue9
 t37 := Tryz.underlying54
 a37 := Tryz.isAgg54
 z37 := Tryz.sizeOf54
 v37 := Tryz.zeroValue54
 t70 := Tryz.underlying198
 a70 := Tryz.isAgg198
 z70 := Tryz.sizeOf198
 v70 := Tryz.zeroValue198
 t72 := Tryz.underlying200
 a72 := Tryz.isAgg200
 z72 := Tryz.sizeOf200
 v72 := Tryz.zeroValue200
 t127 := Tryz.underlying234
 a127 := Tryz.isAgg234
 z127 := Tryz.sizeOf234
 v127 := Tryz.zeroValue234 }
theorem Tryz.Builder_Extra_169 : Builder.Extra Tryz.prog Tryz.lays169_ren := {
 sizeBuilder := by kernel_rfl
 liesBuilder := by kernel_rfl
 t5 := Tryz.underlying5
 a5 := Tryz.isAgg5
 z5 := Tryz.sizeOf5
 v5 := Tryz.zeroValue5
 infoByte := by kernel_rfl
 cellsByte := by kernel_rfl
 sizeByte := by kernel_rfl
 neB5 := by decide }
open Go.RowKit in
theorem Tryz.Builder_String_any (B b : Nat) (l : List UInt8) (w : World) (h : Lib.IsBuilder 200 5 B b (Lib.byteCells l) w) (hBw : B <= w.heap.size) :
  Calls Tryz.prog 123 #[.pointer (some ⟨b, 0, none⟩)] w fun e w' => e = .returned (.string ⟨l.toArray⟩) /\ Below B w w' := Any.Builder_String_any Tryz.lays169 Tryz.Builder_Extra_169 B b l w h hBw
def Tryz.lays137_ren : Go.Shelf.Ren := ⟨fun | 137 => 127 | 217 => 157 | 266 => 192 | n => n, fun | 9 => 9 | 5 => 5 | 3 => 3 | n => n, fun | n => n⟩
theorem Tryz.lays137 : Go.Proofs.Lays.n137 Tryz.prog Tryz.lays137_ren := {
 mixed := by kernel_rfl
 f137 := Tryz.func127.trans (congrArg some (by kernel_rfl))
 f217 := Tryz.func157.trans (congrArg some (by kernel_rfl))
 f266 := Tryz.func192.trans (congrArg some (by kernel_rfl))
 t3 := Tryz.underlying3
 a3 := Tryz.isAgg3
 z3 := Tryz.sizeOf3
 v3 := Tryz.zeroValue3
 t5 := Tryz.underlying5
 a5 := Tryz.isAgg5
 z5 := Tryz.sizeOf5
 v5 := Tryz.zeroValue5
 t9 := Tryz.underlying9
 a9 := Tryz.isAgg9
 z9 := Tryz.sizeOf9
 v9 := Tryz.zeroValue9 }
open Go.RowKit in
theorem Tryz.strings_IndexByte (s : ByteArray) (c : Int) (w : World) :
  Calls Tryz.prog 127 #[.string s, .int .u8 c] w fun e w' => e = .returned (I (Lib.indexByte s.data.toList c.toNat.toUInt8)) /\ w' = w := Any.strings_IndexByte Tryz.lays137 s c w
def Tryz.lays172_ren : Go.Shelf.Ren := ⟨fun | 172 => 121 | 244 => 153 | 245 => 154 | 247 => 186 | 279 => 187 | 280 => 188 | 281 => 189 | 282 => 190 | 287 => 214 | 316 => 215 | 171 => 147 | 205 => 216 | 321 => 231 | 322 => 232 | 243 => 180 | 246 => 209 | 283 => 226 | 284 => 227 | 285 => 228 | 286 => 229 | 129 => 206 | 317 => 238 | 318 => 239 | 319 => 240 | 320 => 241 | 337 => 246 | 338 => 247 | n => n, fun | 9 => 9 | 3 => 3 | 75 => 195 | 76 => 196 | 4 => 4 | 5 => 5 | 167 => 250 | 37 => 54 | 0 => 0 | 85 => 251 | 2 => 2 | 168 => 253 | 53 => 276 | 175 => 285 | 46 => 205 | 210 => 288 | 127 => 234 | 145 => 310 | 143 => 308 | 21 => 21 | 171 => 302 | 173 => 304 | 212 => 317 | 51 => 274 | 20 => 20 | 213 => 318 | 232 => 324 | 233 => 325 | 80 => 87 | n => n, fun | 15 => 0 | 16 => 1 | 17 => 3 | 18 => 4 | 19 => 5 | n => n⟩
theorem Tryz.lays172 : Go.Proofs.Lays.n172 Tryz.prog Tryz.lays172_ren := {
 mixed := by kernel_rfl
 f129 := Tryz.func206.trans (congrArg some (by kernel_rfl))
 f171 := Tryz.func147.trans (congrArg some (by kernel_rfl))
 f172 := Tryz.func121.trans (congrArg some (by kernel_rfl))
 f205 := Tryz.func216.trans (congrArg some (by kernel_rfl))
 f243 := Tryz.func180.trans (congrArg some (by kernel_rfl))
 f244 := Tryz.func153.trans (congrArg some (by kernel_rfl))
 f245 := Tryz.func154.trans (congrArg some (by kernel_rfl))
 f246 := Tryz.func209.trans (congrArg some (by kernel_rfl))
 f247 := Tryz.func186.trans (congrArg some (by kernel_rfl))
 f279 := Tryz.func187.trans (congrArg some (by kernel_rfl))
 f280 := Tryz.func188.trans (congrArg some (by kernel_rfl))
 f281 := Tryz.func189.trans (congrArg some (by kernel_rfl))
 f282 := Tryz.func190.trans (congrArg some (by kernel_rfl))
 f283 := Tryz.func226.trans (congrArg some (by kernel_rfl))
 f284 := Tryz.func227.trans (congrArg some (by kernel_rfl))
 f285 := Tryz.func228.trans (congrArg some (by kernel_rfl))
 f286 := Tryz.func229.trans (congrArg some (by kernel_rfl))
 f287 := Tryz.func214.trans (congrArg some (by kernel_rfl))
 f316 := Tryz.func215.trans (congrArg some (by kernel_rfl))
 f317 := Tryz.func238.trans (congrArg some (by kernel_rfl))
 f318 := Tryz.func239.trans (congrArg some (by kernel_rfl))
 f319 := Tryz.func240.trans (congrArg some (by kernel_rfl))
 f320 := Tryz.func241.trans (congrArg some (by kernel_rfl))
 f321 := Tryz.func231.trans (congrArg some (by kernel_rfl))
 f322 := Tryz.func232.trans (congrArg some (by kernel_rfl))
 f337 := Tryz.func246.trans (congrArg some (by kernel_rfl))
 f338 := Tryz.func247.trans (congrArg some (by kernel_rfl))
 t0 := Tryz.underlying0
 a0 := Tryz.isAgg0
 z0 := Tryz.sizeOf0
 v0 := Tryz.zeroValue0
 t2 := Tryz.underlying2
 a2 := Tryz.isAgg2
 z2 := Tryz.sizeOf2
 v2 := Tryz.zeroValue2
 t3 := Tryz.underlying3
 a3 := Tryz.isAgg3
 z3 := Tryz.sizeOf3
 v3 := Tryz.zeroValue3
 t4 := Tryz.underlying4
 a4 := Tryz.isAgg4
 z4 := Tryz.sizeOf4
 v4 := Tryz.zeroValue4
 t5 := Tryz.underlying5
 a5 := Tryz.isAgg5
 z5 := Tryz.sizeOf5
 v5 := Tryz.zeroValue5
 t9 := Tryz.underlying9
 a9 := Tryz.isAgg9
 z9 := Tryz.sizeOf9
 v9 := Tryz.zeroValue9
 t20 := Tryz.underlying20
 a20 := Tryz.isAgg20
 z20 := Tryz.sizeOf20
 v20 := Tryz.zeroValue20
 t21 := Tryz.underlying21
 a21 := Tryz.isAgg21
 z21 := Tryz.sizeOf21
 v21 := Tryz.zeroValue21
 t37 := Tryz.underlying54
 a37 := Tryz.isAgg54
 z37 := Tryz.sizeOf54
 v37 := Tryz.zeroValue54
 t46 := Tryz.underlying205
 a46 := Tryz.isAgg205
 z46 := Tryz.sizeOf205
 v46 := Tryz.zeroValue205
 t51 := Tryz.underlying274
 a51 := Tryz.isAgg274
 z51 := Tryz.sizeOf274
 v51 := Tryz.zeroValue274
 t53 := Tryz.underlying276
 a53 := Tryz.isAgg276
 z53 := Tryz.sizeOf276
 v53 := Tryz.zeroValue276
 t75 := Tryz.underlying195
 a75 := Tryz.isAgg195
 z75 := Tryz.sizeOf195
 v75 := Tryz.zeroValue195
 t76 := Tryz.underlying196
 a76 := Tryz.isAgg196
 z76 := Tryz.sizeOf196
 v76 := Tryz.zeroValue196
 t85 := Tryz.underlying251
 a85 := Tryz.isAgg251
 z85 := Tryz.sizeOf251
 v85 := Tryz.zeroValue251
 t127 := Tryz.underlying234
 a127 := Tryz.isAgg234
 z127 := Tryz.sizeOf234
 v127 := Tryz.zeroValue234
 t143 := Tryz.underlying308
 a143 := Tryz.isAgg308
 z143 := Tryz.sizeOf308
 v143 := Tryz.zeroValue308
 t145 := Tryz.underlying310
 a145 := Tryz.isAgg310
 z145 := Tryz.sizeOf310
 v145 := Tryz.zeroValue310
 t167 := Tryz.underlying250
 a167 := Tryz.isAgg250
 z167 := Tryz.sizeOf250
 v167 := Tryz.zeroValue250
 t168 := Tryz.underlying253
 a168 := Tryz.isAgg253
 z168 := Tryz.sizeOf253
 v168 := Tryz.zeroValue253
 t171 := Tryz.underlying302
 a171 := Tryz.isAgg302
 z171 := Tryz.sizeOf302
 v171 := Tryz.zeroValue302
 t173 := Tryz.underlying304
 a173 := Tryz.isAgg304
 z173 := Tryz.sizeOf304
 v173 := Tryz.zeroValue304
 t175 := Tryz.underlying285
 a175 := Tryz.isAgg285
 z175 := Tryz.sizeOf285
 v175 := Tryz.zeroValue285
 t210 := Tryz.underlying288
 a210 := Tryz.isAgg288
 z210 := Tryz.sizeOf288
 v210 := Tryz.zeroValue288
 t212 := Tryz.underlying317
 a212 := Tryz.isAgg317
 z212 := Tryz.sizeOf317
 v212 := Tryz.zeroValue317
 t213 := Tryz.underlying318
 a213 := Tryz.isAgg318
 z213 := Tryz.sizeOf318
 t232 := Tryz.underlying324
 a232 := Tryz.isAgg324
 z232 := Tryz.sizeOf324
 v232 := Tryz.zeroValue324
 t233 := Tryz.underlying325
 a233 := Tryz.isAgg325
 z233 := Tryz.sizeOf325
 v233 := Tryz.zeroValue325
 g15 := by kernel_rfl
 g16 := by kernel_rfl
 g17 := by kernel_rfl
 g18 := by kernel_rfl
 g19 := by kernel_rfl }
open Go.RowKit in
theorem Tryz.strconv_Atoi (s : ByteArray) (n : Int) (hl : s.size <= 18) (h : Lib.atoi s.data.toList = some n) (w : World) :
  Calls Tryz.prog 121 #[.string s] w fun e w' => e = .returned (.tuple #[I n, .nilIface]) /\ ∃ t, w' = Lib.bytesWorld w 5 t := Any.strconv_Atoi Tryz.lays172 s n hl h w
def Tryz.laysM171_ren : Go.Shelf.Ren := ⟨fun | 171 => 147 | 243 => 180 | 246 => 209 | 283 => 226 | 284 => 227 | 285 => 228 | 286 => 229 | 129 => 206 | 317 => 238 | 318 => 239 | 319 => 240 | 320 => 241 | 337 => 246 | 338 => 247 | n => n, fun | 3 => 3 | 9 => 9 | 2 => 2 | 4 => 4 | 171 => 302 | 0 => 0 | 53 => 276 | 37 => 54 | 5 => 5 | 173 => 304 | 212 => 317 | 51 => 274 | 20 => 20 | 213 => 318 | 46 => 205 | 232 => 324 | 233 => 325 | n => n, fun | 17 => 3 | 18 => 4 | 19 => 5 | n => n⟩
theorem Tryz.laysM171 : Go.Proofs.LaysM.n171 Tryz.prog Tryz.laysM171_ren := {
 mixed := by kernel_rfl
 f129 := Tryz.func206.trans (congrArg some (by kernel_rfl))
 f171 := Tryz.func147.trans (congrArg some (by kernel_rfl))
 f243 := Tryz.func180.trans (congrArg some (by kernel_rfl))
 f246 := Tryz.func209.trans (congrArg some (by kernel_rfl))
 f283 := Tryz.func226.trans (congrArg some (by kernel_rfl))
 f284 := Tryz.func227.trans (congrArg some (by kernel_rfl))
 f285 := Tryz.func228.trans (congrArg some (by kernel_rfl))
 f286 := Tryz.func229.trans (congrArg some (by kernel_rfl))
 f317 := Tryz.func238.trans (congrArg some (by kernel_rfl))
 f318 := Tryz.func239.trans (congrArg some (by kernel_rfl))
 f319 := Tryz.func240.trans (congrArg some (by kernel_rfl))
 f320 := Tryz.func241.trans (congrArg some (by kernel_rfl))
 f337 := Tryz.func246.trans (congrArg some (by kernel_rfl))
 f338 := Tryz.func247.trans (congrArg some (by kernel_rfl))
 t0 := Tryz.underlying0
 a0 := Tryz.isAgg0
 z0 := Tryz.sizeOf0
 v0 := Tryz.zeroValue0
 t2 := Tryz.underlying2
 a2 := Tryz.isAgg2
 z2 := Tryz.sizeOf2
 v2 := Tryz.zeroValue2
 t3 := Tryz.underlying3
 a3 := Tryz.isAgg3
 z3 := Tryz.sizeOf3
 v3 := Tryz.zeroValue3
 t4 := Tryz.underlying4
 a4 := Tryz.isAgg4
 z4 := Tryz.sizeOf4
 v4 := Tryz.zeroValue4
 t5 := Tryz.underlying5
 a5 := Tryz.isAgg5
 z5 := Tryz.sizeOf5
 v5 := Tryz.zeroValue5
 t9 := Tryz.underlying9
 a9 := Tryz.isAgg9
 z9 := Tryz.sizeOf9
 v9 := Tryz.zeroValue9
 t20 := Tryz.underlying20
 a20 := Tryz.isAgg20
 z20 := Tryz.sizeOf20
 v20 := Tryz.zeroValue20
 t37 := Tryz.underlying54
 a37 := Tryz.isAgg54
 z37 := Tryz.sizeOf54
 v37 := Tryz.zeroValue54
 t46 := Tryz.underlying205
 a46 := Tryz.isAgg205
 z46 := Tryz.sizeOf205
 v46 := Tryz.zeroValue205
 t51 := Tryz.underlying274
 a51 := Tryz.isAgg274
 z51 := Tryz.sizeOf274
 v51 := Tryz.zeroValue274
 t53 := Tryz.underlying276
 a53 := Tryz.isAgg276
 z53 := Tryz.sizeOf276
 v53 := Tryz.zeroValue276
 t171 := Tryz.underlying302
 a171 := Tryz.isAgg302
 z171 := Tryz.sizeOf302
 v171 := Tryz.zeroValue302
 t173 := Tryz.underlying304
 a173 := Tryz.isAgg304
 z173 := Tryz.sizeOf304
 v173 := Tryz.zeroValue304
 t212 := Tryz.underlying317
 a212 := Tryz.isAgg317
 z212 := Tryz.sizeOf317
 v212 := Tryz.zeroValue317
 t213 := Tryz.underlying318
 a213 := Tryz.isAgg318
 z213 := Tryz.sizeOf318
 t232 := Tryz.underlying324
 a232 := Tryz.isAgg324
 z232 := Tryz.sizeOf324
 v232 := Tryz.zeroValue324
 t233 := Tryz.underlying325
 a233 := Tryz.isAgg325
 z233 := Tryz.sizeOf325
 v233 := Tryz.zeroValue325
 g17 := by kernel_rfl
 g18 := by kernel_rfl
 g19 := by kernel_rfl
 i0 := by kernel_rfl
 i2 := by kernel_rfl
 i3 := by kernel_rfl
 i4 := by kernel_rfl
 i5 := by kernel_rfl
 i9 := by kernel_rfl
 i20 := by kernel_rfl
 i37 := by kernel_rfl
 i46 := by kernel_rfl
 i51 := by kernel_rfl
 i53 := by kernel_rfl
 i171 := by kernel_rfl
 i173 := by kernel_rfl
 i212 := by kernel_rfl
 i232 := by kernel_rfl
 i233 := by kernel_rfl
 m17 := by kernel_rfl
 m18 := by kernel_rfl
 m19 := by kernel_rfl }
open Go.RowKit Go.Sort Go.Lib in
theorem Tryz.strconv_Itoa (n : Int) (h0 : -9223372036854775808 <= n) (h1 : n <= 9223372036854775807) (w : World) (htab : Lib.TabIs Tryz.prog w "internal/strconv.uint64pow10" .u64 Lib.pow10Tab) :
  Calls Tryz.prog 147 #[I n] w fun e w' => e = .returned (.string ⟨(Lib.itoa n).toArray⟩) /\ ∃ k os, w' = grow (w.drewN k) os := Any.strconv_Itoa Tryz.laysM171 n h0 h1 w htab
def Tryz.laysC172_ren : Go.Shelf.Ren := ⟨fun | 172 => 121 | 244 => 153 | 245 => 154 | 247 => 186 | 279 => 187 | 280 => 188 | 281 => 189 | 282 => 190 | 287 => 214 | 316 => 215 | 171 => 147 | 205 => 216 | 321 => 231 | 322 => 232 | 243 => 180 | 246 => 209 | 283 => 226 | 284 => 227 | 285 => 228 | 286 => 229 | 129 => 206 | 317 => 238 | 318 => 239 | 319 => 240 | 320 => 241 | 337 => 246 | 338 => 247 | n => n, fun | 9 => 9 | 3 => 3 | 75 => 195 | 76 => 196 | 4 => 4 | 5 => 5 | 167 => 250 | 37 => 54 | 0 => 0 | 85 => 251 | 2 => 2 | 168 => 253 | 53 => 276 | 175 => 285 | 46 => 205 | 210 => 288 | 127 => 234 | 145 => 310 | 143 => 308 | 21 => 21 | 171 => 302 | 173 => 304 | 212 => 317 | 51 => 274 | 20 => 20 | 213 => 318 | 232 => 324 | 233 => 325 | 80 => 87 | n => n, fun | 15 => 0 | 16 => 1 | 17 => 3 | 18 => 4 | 19 => 5 | n => n⟩
theorem Tryz.laysC172 : Go.Proofs.LaysC.n172 Tryz.prog Tryz.laysC172_ren := {
 mixed := by kernel_rfl
 f129 := Tryz.func206.trans (congrArg some (by kernel_rfl))
 f171 := Tryz.func147.trans (congrArg some (by kernel_rfl))
 f172 := Tryz.func121.trans (congrArg some (by kernel_rfl))
 f205 := Tryz.func216.trans (congrArg some (by kernel_rfl))
 f243 := Tryz.func180.trans (congrArg some (by kernel_rfl))
 f244 := Tryz.func153.trans (congrArg some (by kernel_rfl))
 f245 := Tryz.func154.trans (congrArg some (by kernel_rfl))
 f246 := Tryz.func209.trans (congrArg some (by kernel_rfl))
 f247 := Tryz.func186.trans (congrArg some (by kernel_rfl))
 f279 := Tryz.func187.trans (congrArg some (by kernel_rfl))
 f280 := Tryz.func188.trans (congrArg some (by kernel_rfl))
 f281 := Tryz.func189.trans (congrArg some (by kernel_rfl))
 f282 := Tryz.func190.trans (congrArg some (by kernel_rfl))
 f283 := Tryz.func226.trans (congrArg some (by kernel_rfl))
 f284 := Tryz.func227.trans (congrArg some (by kernel_rfl))
 f285 := Tryz.func228.trans (congrArg some (by kernel_rfl))
 f286 := Tryz.func229.trans (congrArg some (by kernel_rfl))
 f287 := Tryz.func214.trans (congrArg some (by kernel_rfl))
 f316 := Tryz.func215.trans (congrArg some (by kernel_rfl))
 f317 := Tryz.func238.trans (congrArg some (by kernel_rfl))
 f318 := Tryz.func239.trans (congrArg some (by kernel_rfl))
 f319 := Tryz.func240.trans (congrArg some (by kernel_rfl))
 f320 := Tryz.func241.trans (congrArg some (by kernel_rfl))
 f321 := Tryz.func231.trans (congrArg some (by kernel_rfl))
 f322 := Tryz.func232.trans (congrArg some (by kernel_rfl))
 f337 := Tryz.func246.trans (congrArg some (by kernel_rfl))
 f338 := Tryz.func247.trans (congrArg some (by kernel_rfl))
 t0 := Tryz.underlying0
 a0 := Tryz.isAgg0
 z0 := Tryz.sizeOf0
 v0 := Tryz.zeroValue0
 t2 := Tryz.underlying2
 a2 := Tryz.isAgg2
 z2 := Tryz.sizeOf2
 v2 := Tryz.zeroValue2
 t3 := Tryz.underlying3
 a3 := Tryz.isAgg3
 z3 := Tryz.sizeOf3
 v3 := Tryz.zeroValue3
 t4 := Tryz.underlying4
 a4 := Tryz.isAgg4
 z4 := Tryz.sizeOf4
 v4 := Tryz.zeroValue4
 t5 := Tryz.underlying5
 a5 := Tryz.isAgg5
 z5 := Tryz.sizeOf5
 v5 := Tryz.zeroValue5
 t9 := Tryz.underlying9
 a9 := Tryz.isAgg9
 z9 := Tryz.sizeOf9
 v9 := Tryz.zeroValue9
 t20 := Tryz.underlying20
 a20 := Tryz.isAgg20
 z20 := Tryz.sizeOf20
 v20 := Tryz.zeroValue20
 t21 := Tryz.underlying21
 a21 := Tryz.isAgg21
 z21 := Tryz.sizeOf21
 v21 := Tryz.zeroValue21
 t37 := Tryz.underlying54
 a37 := Tryz.isAgg54
 z37 := Tryz.sizeOf54
 v37 := Tryz.zeroValue54
 t46 := Tryz.underlying205
 a46 := Tryz.isAgg205
 z46 := Tryz.sizeOf205
 v46 := Tryz.zeroValue205
 t51 := Tryz.underlying274
 a51 := Tryz.isAgg274
 z51 := Tryz.sizeOf274
 v51 := Tryz.zeroValue274
 t53 := Tryz.underlying276
 a53 := Tryz.isAgg276
 z53 := Tryz.sizeOf276
 v53 := Tryz.zeroValue276
 t75 := Tryz.underlying195
 a75 := Tryz.isAgg195
 z75 := Tryz.sizeOf195
 v75 := Tryz.zeroValue195
 t76 := Tryz.underlying196
 a76 := Tryz.isAgg196
 z76 := Tryz.sizeOf196
 v76 := Tryz.zeroValue196
 t85 := Tryz.underlying251
 a85 := Tryz.isAgg251
 z85 := Tryz.sizeOf251
 v85 := Tryz.zeroValue251
 t127 := Tryz.underlying234
 a127 := Tryz.isAgg234
 z127 := Tryz.sizeOf234
 v127 := Tryz.zeroValue234
 t143 := Tryz.underlying308
 a143 := Tryz.isAgg308
 z143 := Tryz.sizeOf308
 v143 := Tryz.zeroValue308
 t145 := Tryz.underlying310
 a145 := Tryz.isAgg310
 z145 := Tryz.sizeOf310
 v145 := Tryz.zeroValue310
 t167 := Tryz.underlying250
 a167 := Tryz.isAgg250
 z167 := Tryz.sizeOf250
 v167 := Tryz.zeroValue250
 t168 := Tryz.underlying253
 a168 := Tryz.isAgg253
 z168 := Tryz.sizeOf253
 v168 := Tryz.zeroValue253
 t171 := Tryz.underlying302
 a171 := Tryz.isAgg302
 z171 := Tryz.sizeOf302
 v171 := Tryz.zeroValue302
 t173 := Tryz.underlying304
 a173 := Tryz.isAgg304
 z173 := Tryz.sizeOf304
 v173 := Tryz.zeroValue304
 t175 := Tryz.underlying285
 a175 := Tryz.isAgg285
 z175 := Tryz.sizeOf285
 v175 := Tryz.zeroValue285
 t210 := Tryz.underlying288
 a210 := Tryz.isAgg288
 z210 := Tryz.sizeOf288
 v210 := Tryz.zeroValue288
 t212 := Tryz.underlying317
 a212 := Tryz.isAgg317
 z212 := Tryz.sizeOf317
 v212 := Tryz.zeroValue317
 t213 := Tryz.underlying318
 a213 := Tryz.isAgg318
 z213 := Tryz.sizeOf318
 t232 := Tryz.underlying324
 a232 := Tryz.isAgg324
 z232 := Tryz.sizeOf324
 v232 := Tryz.zeroValue324
 t233 := Tryz.underlying325
 a233 := Tryz.isAgg325
 z233 := Tryz.sizeOf325
 v233 := Tryz.zeroValue325
 g15 := by kernel_rfl
 g16 := by kernel_rfl
 g17 := by kernel_rfl
 g18 := by kernel_rfl
 g19 := by kernel_rfl
 t80 := Tryz.underlying87
 a80 := Tryz.isAgg87
 z80 := Tryz.sizeOf87
 v80 := Tryz.zeroValue87
 i0 := by kernel_rfl
 i2 := by kernel_rfl
 i3 := by kernel_rfl
 i4 := by kernel_rfl
 i5 := by kernel_rfl
 i9 := by kernel_rfl
 i20 := by kernel_rfl
 i21 := by kernel_rfl
 i37 := by kernel_rfl
 i46 := by kernel_rfl
 i51 := by kernel_rfl
 i53 := by kernel_rfl
 i75 := by kernel_rfl
 i76 := by kernel_rfl
 i80 := by kernel_rfl
 i85 := by kernel_rfl
 i127 := by kernel_rfl
 i143 := by kernel_rfl
 i145 := by kernel_rfl
 i167 := by kernel_rfl
 i168 := by kernel_rfl
 i171 := by kernel_rfl
 i173 := by kernel_rfl
 i175 := by kernel_rfl
 i210 := by kernel_rfl
 i212 := by kernel_rfl
 i232 := by kernel_rfl
 i233 := by kernel_rfl
 m15 := by kernel_rfl
 m16 := by kernel_rfl
 m17 := by kernel_rfl
 m18 := by kernel_rfl
 m19 := by kernel_rfl
 c0 := by kernel_rfl
 c2 := by kernel_rfl
 c3 := by kernel_rfl
 c4 := by kernel_rfl
 c5 := by kernel_rfl
 c9 := by kernel_rfl
 c20 := by kernel_rfl
 c21 := by kernel_rfl
 c37 := by kernel_rfl
 c46 := by kernel_rfl
 c51 := by kernel_rfl
 c53 := by kernel_rfl
 c75 := by kernel_rfl
 c76 := by kernel_rfl
 c80 := by kernel_rfl
 c85 := by kernel_rfl
 c127 := by kernel_rfl
 c143 := by kernel_rfl
 c145 := by kernel_rfl
 c167 := by kernel_rfl
 c168 := by kernel_rfl
 c171 := by kernel_rfl
 c173 := by kernel_rfl
 c175 := by kernel_rfl
 c210 := by kernel_rfl
 c212 := by kernel_rfl
 c213 := by kernel_rfl
 c232 := by kernel_rfl
 c233 := by kernel_rfl }
open Go.RowKit in
theorem Tryz.strconv_Atoi_ok (s : ByteArray) (hmax : s.size <= 9223372036854775806) (v : Int) (h : Lib.atoiAll s.data.toList = .ok v) (w : World) :
  Calls Tryz.prog 121 #[.string s] w fun e w' => e = .returned (.tuple #[I v, .nilIface]) /\ (w' = w \/ ∃ t, w' = Lib.bytesWorld w 5 t) := Any.strconv_Atoi_ok Tryz.laysC172 s hmax v h w
open Go.RowKit in
theorem Tryz.strconv_Atoi_syntax (s : ByteArray) (hlim : s.size <= 281474976710656) (h : Lib.atoiAll s.data.toList = Lib.atoiAll []) (ev : Value) (w : World) (hv : w.cell? ⟨0, 0, none⟩ = some ev) (hev : ev = .nilIface \/ ∃ te pe, ev = .iface te pe) :
  Calls Tryz.prog 121 #[.string s] w fun e w' => ∃ N, e = .returned (.tuple #[I (0), .iface 253 (.pointer (some ⟨N, 0, none⟩))]) /\ w.heap.size <= N /\ w'.heap[N]? = some (.cells #[.string ⟨#[65, 116, 111, 105]⟩, .string s, ev] 288 (0, 0)) /\ Below w.heap.size w w' := Any.strconv_Atoi_syntax Tryz.laysC172 s hlim (h.trans rfl) ev w hv hev
open Go.RowKit in
theorem Tryz.strconv_Atoi_range (s : ByteArray) (hlim : s.size <= 281474976710656) (h : Lib.atoiAll s.data.toList = .range) (ev : Value) (w : World) (hv : w.cell? ⟨1, 0, none⟩ = some ev) (hev : ev = .nilIface \/ ∃ te pe, ev = .iface te pe) :
  Calls Tryz.prog 121 #[.string s] w fun e w' => ∃ N, e = .returned (.tuple #[I (Lib.atoiSat s.data.toList), .iface 253 (.pointer (some ⟨N, 0, none⟩))]) /\ w.heap.size <= N /\ w'.heap[N]? = some (.cells #[.string ⟨#[65, 116, 111, 105]⟩, .string s, ev] 288 (0, 0)) /\ Below w.heap.size w w' := Any.strconv_Atoi_range Tryz.laysC172 s hlim h ev w hv hev
def Tryz.laysNm225_ren : Go.Shelf.Ren := ⟨fun | 25 => 90 | 31 => 131 | 32 => 132 | 37 => 158 | n => n, fun | 22 => 106 | 3 => 3 | 4 => 4 | 40 => 205 | 0 => 0 | n => n, fun | n => n⟩
theorem Tryz.laysNm225 : Go.Proofs.Lays2.n25 Tryz.prog Tryz.laysNm225_ren := {
 mixed := by kernel_rfl
 f25 := Tryz.func90.trans (congrArg some (by kernel_rfl))
 f31 := Tryz.func131.trans (congrArg some (by kernel_rfl))
 f32 := Tryz.func132.trans (congrArg some (by kernel_rfl))
 f37 := Tryz.func158.trans (congrArg some (by kernel_rfl))
 t0 := Tryz.underlying0
 a0 := Tryz.isAgg0
 z0 := Tryz.sizeOf0
 v0 := Tryz.zeroValue0
 t3 := Tryz.underlying3
 a3 := Tryz.isAgg3
 z3 := Tryz.sizeOf3
 v3 := Tryz.zeroValue3
 t4 := Tryz.underlying4
 a4 := Tryz.isAgg4
 z4 := Tryz.sizeOf4
 v4 := Tryz.zeroValue4
 t22 := Tryz.underlying106
 a22 := Tryz.isAgg106
 z22 := Tryz.sizeOf106
 v22 := Tryz.zeroValue106
 t40 := Tryz.underlying205
 a40 := Tryz.isAgg205
 z40 := Tryz.sizeOf205
 v40 := Tryz.zeroValue205 }
open Go.RowKit Go.Lib in
theorem Tryz.slices_BinarySearch_int (b off n c : Nat) (zs : List Int) (x : Int) (w : World) (hz : n <= zs.length) (hbig : n < 4611686018427387904) (hc : ∀ j, j < zs.length -> w.cell? ⟨b, off + j, none⟩ = some (I (zs.getD j 0))) (hs : (zs.take n).Pairwise (· <= ·)) :
  Calls Tryz.prog 90 #[.slice (some ⟨b, off, none⟩) n c, I x] w fun e w' => e = .returned (.tuple #[I ((zs.take n).countP (· < x) : Nat), .bool ((zs.take n).contains x)]) /\ ∃ q, w' = w.drewN q := Any.slices_BinarySearch_int Tryz.laysNm225 b off n c zs x w hz hbig hc hs
end Go.Proofs
namespace Go.Proofs.YtgkhemnmcgicnaaGreatDoor
set_option maxHeartbeats 4000000
set_option maxRecDepth 100000
open Go.RowKit
section
variable {B X : Nat} {ks : List (Nat × Obj)} {s : ByteArray} {lines : Value} {lv : Value} {n : Nat} {xs : List Value} {wr : Int} {w0 w : World}
theorem K5 {c : Nat} (h : qL c = true) : ((c : Nat) : Int) ≠ 37 := by
 intro e
 have : c = 37 := by omega
 subst this
 simp [qL] at h
structure oL (ls : List Int) : Prop where
 head : 0 < ls.length /\ ls.getD 0 0 = 0
 sorted : ls.Pairwise (· <= ·)
 lo : ∀ x ∈ ls, 0 <= x
 hi : ∀ x ∈ ls, x <= 1048576
 len : ls.length <= 2000000
def qK (ls : List Int) (a : Nat) : Nat := if ls.contains (a : Int) then ls.countP (· < (a : Int)) else ls.countP (· < (a : Int)) - 1
def rN (ls : List Int) (a : Nat) : Int := (qK ls a : Int) + 1
def rP (ls : List Int) (a : Nat) : Int := (a : Int) - ls.getD (qK ls a) 0 + 1
def hG (LN : Value) (ls : List Int) (ks : List (Nat × Obj)) : Prop :=
 ∃ L cap cs, LN = .slice (some ⟨L, 0, none⟩) ls.length cap /\ (L, Obj.cells cs 3 (0, 0)) ∈ ks /\ ∀ j, j < ls.length -> cs[j]? = some (I (ls.getD j 0))
theorem oL.mem0 {ls : List Int} (g : oL ls) : (0 : Int) ∈ ls := by
 obtain ⟨h, e⟩ := g.head
 cases ls with
 | nil => simp at h
 | cons x r => simp at e; subst e; simp
theorem RK {ls : List Int} (g : oL ls) (a : Nat) : qK ls a < ls.length := by
 unfold qK
 have hle := List.countP_le_length (p := fun x : Int => decide (x < (a : Int))) (l := ls)
 split
 ·rename_i h
  have hm : (a : Int) ∈ ls := by simpa using h
  rcases Nat.lt_or_ge (ls.countP fun x => decide (x < (a : Int))) ls.length with h1 | h1
  ·exact h1
  ·have h2 := List.countP_eq_length.1 (Nat.le_antisymm hle h1) _ hm
   simp at h2
 ·have := g.head.1
  omega
theorem NM {ls : List Int} (g : oL ls) (a : Nat) (h : ls.contains (a : Int) = false) : 0 < ls.countP (· < (a : Int)) := by
 rw [List.countP_pos_iff]
 refine ⟨0, g.mem0, ?_⟩
 have hm := g.mem0
 have hn : ¬ (a : Int) ∈ ls := by simpa using h
 have : a ≠ 0 := by rintro rfl; exact hn hm
 simp; omega
theorem vM {LN : Value} {ls : List Int} {pos e : Int} (h : gG B X ks s LN pos lv n xs e wr w0 w) (hL : hG LN ls ks) (gL : oL ls) (a : Nat) (ha : a <= 1048576) :
  Calls Tryz.prog 42 #[.pointer (some ⟨X, 0, none⟩), I a] w fun r w' => r = .returned (.tuple #[I (rN ls a), I (rP ls a)]) /\ Below w.heap.size w w' := by
 obtain ⟨L, cap, cs, rfl, hk, hcs⟩ := hL
 have c2 := h.c2
 have hrow := (h.keep _ hk).1
 have l0 : ∀ j, j < ls.length -> w.cell? ⟨L, j, none⟩ = some (I (ls.getD j 0)) := fun j hj => by rw [Lib.cell_of_heap hrow]; exact hcs j hj
 clear h
 have hlen := gL.len
 have hb := Tryz.slices_BinarySearch_int L 0 ls.length cap ls (a : Int) w (qb _) (by omega) (fun j hj => by rw [Nat.zero_add]; exact l0 j hj) (by rw [List.take_length]; exact gL.sorted)
 rw [List.take_length] at hb
 have hlt := RK gL a
 have hv := l0 _ hlt
 have hmem : ls.getD (qK ls a) 0 ∈ ls := by simp [List.getD, hlt]
 have v0 := gL.lo _ hmem
 have v1 := gL.hi _ hmem
 obtain ⟨i, hi⟩ : ∃ i, qK ls a = i := ⟨_, rfl⟩
 have hpl : rN ls a = (i : Int) + 1 := by rw [rN, hi]
 have hpc : rP ls a = (a : Int) - ls.getD i 0 + 1 := by rw [rP, hi]
 rw [hpl, hpc]
 rw [hi] at hv v0 v1 hlt hmem
 generalize ls.getD i 0 = v at hv v0 v1
 have hi0 : (0 : Int) <= (i : Int) := by omega
 have hi1 : (i : Int) < (ls.length : Int) := by omega
 have m1 : IntKind.i64.wrap ((i : Int) + 1) = (i : Int) + 1 := IntWalk.i64_in _ (by omega)
 have m2 : IntKind.i64.wrap ((a : Int) - v) = (a : Int) - v := IntWalk.i64_in _ (by omega)
 have m3 : IntKind.i64.wrap ((a : Int) - v + 1) = (a : Int) - v + 1 := IntWalk.i64_in _ (by omega)
 have e3 : ls.contains (a : Int) = true \/ ls.contains (a : Int) = false := by cases ls.contains (a : Int) <;> simp
 rcases e3 with e3 | e3
 ·have e4 : ls.countP (· < (a : Int)) = i := by rw [<- hi, qK, if_pos e3]
  rw [e3, e4] at hb
  clear l0 hpl hpc hi e3 e4 hmem hrow hcs hk
  go_enter Tryz.func42, Tryz.ntmps42
  go_wp2_with (go_at_call 90; refine hb.mono ?_; rintro e w' ⟨rfl, q, rfl⟩)
  go_quiet (fail)
  go_wp2
  go_ret2
  exact ⟨by simp, cD (cD (qa _ _) _) _⟩
 ·have hp := NM gL a e3
  have e4 : ls.countP (· < (a : Int)) = i + 1 := by
   have : qK ls a = ls.countP (· < (a : Int)) - 1 := by rw [qK, if_neg (by rw [e3]; decide)]
   omega
  rw [e3, e4] at hb
  have m4 : IntKind.i64.wrap (((i + 1 : Nat) : Int) - 1) = (i : Int) := by rw [show ((i + 1 : Nat) : Int) - 1 = (i : Int) by omega]; exact IntWalk.i64_in _ (by omega)
  generalize ((i + 1 : Nat) : Int) = y at hb m4
  clear l0 hpl hpc hi e3 e4 hmem hrow hcs hk hp
  go_enter Tryz.func42, Tryz.ntmps42
  go_wp2_with (go_at_call 90; refine hb.mono ?_; rintro e w' ⟨rfl, q, rfl⟩)
  go_quiet (fail)
  go_wp2
  go_ret2
  exact ⟨by simp, cD (cD (qa _ _) _) _⟩
theorem Tryz.infoTok : (Tryz.prog.info? 59).map (fun i => (i.zero, i.size, i.bytes)) = some (some (.agg #[I 0, .string ByteArray.empty, I 0, .string ByteArray.empty, I 0, I 0, .bool false]), 7, 72) := by kernel_rfl
end
end Go.Proofs.YtgkhemnmcgicnaaGreatDoor
