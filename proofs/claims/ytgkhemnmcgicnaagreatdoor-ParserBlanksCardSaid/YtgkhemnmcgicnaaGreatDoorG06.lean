/- Towards the law ParserBlanks, true for every text and all blanks (no condition): one part of the proof. -/
import Derived.Test.YtgkhemnmcgicnaaGreatDoorG01
import Derived.Test.YtgkhemnmcgicnaaGreatDoorG05
import Derived.Test.YtgkhemnmcgicnaaGreatDoorProg
import Derived.KernelRfl
namespace Go.Proofs.YtgkhemnmcgicnaaGreatDoor
open Go.RowKit Go.Dam
def aG3:Nat:=2 ^ 260-1
set_option maxRecDepth 1000000
theorem aC8:mB Tryz.prog Tryz.prog.funcs.size aG3=true:=by kernel_rfl
theorem lJ:RB Tryz.prog=true:=by kernel_rfl
theorem nW:Tryz.prog.follows .mixedOrders=true:=by kernel_rfl
theorem aC9:Nat.ble (2*Tryz.prog.globals.size) 100=true:=by kernel_rfl
noncomputable def BV(f:FuncId)(args:List Value)(v:Value):Bool:=match j5 XF Tryz.prog aG3 400 14 (.func f) args ⟨[],100⟩with
 |some (u,_)=>veq v u
 |none=>false
theorem mR{f:FuncId}{args:List Value}{v:Value}(ha:args.all plain=true)(hv:plain v=true)(h:BV f args v=true)(w:World) :
  Calls Tryz.prog f args.toArray w fun e w'=>e=.returned v/\Below w.heap.size w w':=by
 unfold BV at h;split at h
 ·rename_i u S he;obtain rfl:=qX h;refine T6 (args:=args) G1 nW (iD lJ) aC8 (h:=[]) (nx:=100) rfl (by decide) (qqj aC9) ?_ hv he rfl ?_
  ·intro x hx;exact qqm.1 ha x hx
  ·intro n o hn;cases hn
 ·cases h
noncomputable def uJ(f:FuncId):Code:=match Tryz.prog.funcs[f]? with
 |some fn=>(match fn.body with
  |some c=>c
  |none=>.skip)
 |none=>.skip
def SC:Nat:=2 ^ 286-1
theorem ZV:mB Tryz.prog Tryz.prog.funcs.size SC=true:=by kernel_rfl
theorem aF6:Tryz.prog.funcs.size=286:=by kernel_rfl
theorem ED{P:Program}{fs fs':Nat}:∀{n:Nat},mB P n fs=true->(∀f,f<n->Nat.testBit fs f=true)->mB P n fs'=true
 |0,_,_=>rfl
 |n+1,h,hb=>by
  simp only[mB,Bool.and_eq_true]at h⊢;have h1:=h.1;rw[hb n (Nat.lt_succ_self n)]at h1;simp only[Bool.not_true,Bool.false_or]at h1;refine⟨?_,ED h.2 fun f hf=>hb f (by omega)⟩;rw[Bool.or_eq_true];exact .inr h1
theorem aF7:((List.range 286).all fun f=>Nat.testBit SC f)=true:=by kernel_rfl
theorem N6(fs:Nat):mB Tryz.prog Tryz.prog.funcs.size fs=true :=
 ED ZV fun f hf=>by
  rw[aF6]at hf;exact qqm.1 aF7 f (List.mem_range.2 hf)
noncomputable def CF:Fn->List Value->St->Option (Value×St):=j5 XF Tryz.prog SC 400 12
def sY:Code->Code
 | .loop b=>b
 | .seq a b=>match sY a with
  | .skip=>sY b
  |c=>c
 | .block _ b=>sY b
 | _=>.skip
noncomputable def dC:ByteArray:=⟨#[115,99,111,114,101,32,34,68,117,111,34,10,112,97,114,116,32,34,70,108,117,116,101,34,32,115,116,97,102,102,32,116,114,101,98,108,101,10,109,101,97,115,117,114,101,32,109,101,116,114,101,32,51,47,52,32,107,101,121,32,49,32,123,32,40,51,58,50,32,71,52,58,56,32,65,52,58,56,32,66,52,58,56,41,32,60,67,53,126,32,69,53,62,58,52,32,91,97,99,99,101,110,116,32,109,102,93,32,34,108,97,34,32,114,58,52,32,125,10,109,101,97,115,117,114,101,32,123,32,67,53,58,50,46,32,125,10]⟩
abbrev FJ:List Value:=[Z 1,.string ⟨#[115,99,111,114,101]⟩,Z 0,.string ⟨#[]⟩,Z 1,Z 1,.bool false,Z 3,.string ⟨#[34,68,117,111,34]⟩,Z 0,.string ⟨#[68,117,111]⟩,Z 1,Z 7,.bool false,Z 1,.string ⟨#[112,97,114,116]⟩,Z 0,.string ⟨#[]⟩,Z 2,Z 1,.bool false,Z 3,.string ⟨#[34,70,108,117,116,101,34]⟩,Z 0,.string ⟨#[70,108,117,116,101]⟩,Z 2,Z 6,.bool false,Z 1,.string ⟨#[115,116,97,102,102]⟩,Z 0,.string ⟨#[]⟩,Z 2,Z 14,.bool false,Z 1,.string ⟨#[116,114,101,98,108,101]⟩,Z 0,.string ⟨#[]⟩,Z 2,Z 20,.bool false,Z 1,.string ⟨#[109,101,97,115,117,114,101]⟩,Z 0,.string ⟨#[]⟩,Z 3,Z 1,.bool false,Z 1,.string ⟨#[109,101,116,114,101]⟩,Z 0,.string ⟨#[]⟩,Z 3,Z 9,.bool false,Z 2,.string ⟨#[51]⟩,Z 3,.string ⟨#[]⟩,Z 3,Z 15,.bool false,Z 4,.string ⟨#[47]⟩,Z 0,.string ⟨#[]⟩,Z 3,Z 16,.bool true,Z 2,.string ⟨#[52]⟩,Z 4,.string ⟨#[]⟩,Z 3,Z 17,.bool true,Z 1,.string ⟨#[107,101,121]⟩,Z 0,.string ⟨#[]⟩,Z 3,Z 19,.bool false,Z 2,.string ⟨#[49]⟩,Z 1,.string ⟨#[]⟩,Z 3,Z 23,.bool false,Z 4,.string ⟨#[123]⟩,Z 0,.string ⟨#[]⟩,Z 3,Z 25,.bool false,Z 4,.string ⟨#[40]⟩,Z 0,.string ⟨#[]⟩,Z 3,Z 27,.bool false,Z 2,.string ⟨#[51]⟩,Z 3,.string ⟨#[]⟩,Z 3,Z 28,.bool true,Z 4,.string ⟨#[58]⟩,Z 0,.string ⟨#[]⟩,Z 3,Z 29,.bool true,Z 2,.string ⟨#[50]⟩,Z 2,.string ⟨#[]⟩,Z 3,Z 30,.bool true,Z 1,.string ⟨#[71,52]⟩,Z 0,.string ⟨#[]⟩,Z 3,Z 32,.bool false,Z 4,.string ⟨#[58]⟩,Z 0,.string ⟨#[]⟩,Z 3,Z 34,.bool true,Z 2,.string ⟨#[56]⟩,Z 8,.string ⟨#[]⟩,Z 3,Z 35,.bool true,Z 1,.string ⟨#[65,52]⟩,Z 0,.string ⟨#[]⟩,Z 3,Z 37,.bool false,Z 4,.string ⟨#[58]⟩,Z 0,.string ⟨#[]⟩,Z 3,Z 39,.bool true,Z 2,.string ⟨#[56]⟩,Z 8,.string ⟨#[]⟩,Z 3,Z 40,.bool true,Z 1,.string ⟨#[66,52]⟩,Z 0,.string ⟨#[]⟩,Z 3,Z 42,.bool false,Z 4,.string ⟨#[58]⟩,Z 0,.string ⟨#[]⟩,Z 3,Z 44,.bool true,Z 2,.string ⟨#[56]⟩,Z 8,.string ⟨#[]⟩,Z 3,Z 45,.bool true,Z 4,.string ⟨#[41]⟩,Z 0,.string ⟨#[]⟩,Z 3,Z 46,.bool true,Z 4,.string ⟨#[60]⟩,Z 0,.string ⟨#[]⟩,Z 3,Z 48,.bool false,Z 1,.string ⟨#[67,53]⟩,Z 0,.string ⟨#[]⟩,Z 3,Z 49,.bool true,Z 4,.string ⟨#[126]⟩,Z 0,.string ⟨#[]⟩,Z 3,Z 51,.bool true,Z 1,.string ⟨#[69,53]⟩,Z 0,.string ⟨#[]⟩,Z 3,Z 53,.bool false,Z 4,.string ⟨#[62]⟩,Z 0,.string ⟨#[]⟩,Z 3,Z 55,.bool true,Z 4,.string ⟨#[58]⟩,Z 0,.string ⟨#[]⟩,Z 3,Z 56,.bool true,Z 2,.string ⟨#[52]⟩,Z 4,.string ⟨#[]⟩,Z 3,Z 57,.bool true,Z 4,.string ⟨#[91]⟩,Z 0,.string ⟨#[]⟩,Z 3,Z 59,.bool false,Z 1,.string ⟨#[97,99,99,101,110,116]⟩,Z 0,.string ⟨#[]⟩,Z 3,Z 60,.bool true,Z 1,.string ⟨#[109,102]⟩,Z 0,.string ⟨#[]⟩,Z 3,Z 67,.bool false,Z 4,.string ⟨#[93]⟩,Z 0,.string ⟨#[]⟩,Z 3,Z 69,.bool true,Z 3,.string ⟨#[34,108,97,34]⟩,Z 0,.string ⟨#[108,97]⟩,Z 3,Z 71,.bool false,Z 1,.string ⟨#[114]⟩,Z 0,.string ⟨#[]⟩,Z 3,Z 76,.bool false,Z 4,.string ⟨#[58]⟩,Z 0,.string ⟨#[]⟩,Z 3,Z 77,.bool true,Z 2,.string ⟨#[52]⟩,Z 4,.string ⟨#[]⟩,Z 3,Z 78,.bool true,Z 4,.string ⟨#[125]⟩,Z 0,.string ⟨#[]⟩,Z 3,Z 80,.bool false,Z 1,.string ⟨#[109,101,97,115,117,114,101]⟩,Z 0,.string ⟨#[]⟩,Z 4,Z 1,.bool false,Z 4,.string ⟨#[123]⟩,Z 0,.string ⟨#[]⟩,Z 4,Z 9,.bool false,Z 1,.string ⟨#[67,53]⟩,Z 0,.string ⟨#[]⟩,Z 4,Z 11,.bool false,Z 4,.string ⟨#[58]⟩,Z 0,.string ⟨#[]⟩,Z 4,Z 13,.bool true,Z 2,.string ⟨#[50]⟩,Z 2,.string ⟨#[]⟩,Z 4,Z 14,.bool true,Z 4,.string ⟨#[46]⟩,Z 0,.string ⟨#[]⟩,Z 4,Z 15,.bool true,Z 4,.string ⟨#[125]⟩,Z 0,.string ⟨#[]⟩,Z 4,Z 17,.bool false,Z 0,.string ⟨#[]⟩,Z 0,.string ⟨#[]⟩,Z 5,Z 1,.bool false]
abbrev tD:Nat->List Value
 |0=>[]
 |n+1=>.int .i64 0::.string ⟨#[]⟩::.int .i64 0::.string ⟨#[]⟩::.int .i64 0::.int .i64 0::.bool false::tD n
noncomputable def gK:Go.Dam.Lit :=
 ⟨[.string dC,undef,.slice none 0 0,Z 0,Z 0,Z 0,.pointer (some ⟨108,0,none⟩),Z 136,.string dC,Z 137,.bool false,.string dC,.slice (some ⟨106,0,none⟩) 1 1,.agg #[.string dC,Z 0,.slice (some ⟨106,0,none⟩) 1 1,.slice none 0 0,Z 0,Z 0],.pointer (some ⟨108,0,none⟩),.string dC,Z 137,Z 137,.bool false,Z 136,.string dC,Z 136,.int .u8 10,.bool true,.pointer (some ⟨108,0,none⟩),.pointer (some ⟨108,0,none⟩),.pointer (some ⟨108,0,none⟩),.pointer (some ⟨108,2,none⟩),.slice (some ⟨121,0,none⟩) 4 0,Z 136,Z 137,.slice (some ⟨122,0,none⟩) 1 1,.slice (some ⟨125,0,none⟩) 5 0,.pointer (some ⟨108,0,none⟩),.pointer (some ⟨108,2,none⟩),Z 137]++List.replicate 26 undef,
  [(125,.cells #[Z 0,Z 12,Z 38,Z 119,Z 137] 3 (0,0)),
   (122,.cells #[Z 137] 3 (0,0)),
   (108,.cells #[.string dC,Z 0,.slice (some ⟨125,0,none⟩) 5 0,.slice none 0 0,Z 0,Z 0] 108 (0,0)),
   (106,.cells #[Z 0] 3 (0,0))],126⟩
noncomputable def wQ:Go.Dam.Lit :=
 ⟨[.pointer (some ⟨108,0,none⟩),.pointer (some ⟨126,0,none⟩),.slice (some ⟨128,0,none⟩) 4 4,undef,.slice (some ⟨128,0,none⟩) 4 4]++List.replicate 48 undef,
  [(128,.cells #[.func (.func 81) #[] #[],.func (.func 82) #[] #[],.func (.func 83) #[] #[],.func (.func 84) #[] #[]] 153 (0,0)),
   (126,.cells #[.pointer (some ⟨108,0,none⟩)] 105 (0,0)),
   (125,.cells #[Z 0,Z 12,Z 38,Z 119,Z 137] 3 (0,0)),
   (108,.cells #[.string dC,Z 0,.slice (some ⟨125,0,none⟩) 5 0,.slice none 0 0,Z 0,Z 0] 108 (0,0))],130⟩
noncomputable def NS:Go.Dam.Lit :=
 ⟨[.pointer (some ⟨108,0,none⟩),.pointer (some ⟨126,0,none⟩),.slice (some ⟨128,0,none⟩) 4 4,.pointer (some ⟨240,0,none⟩),.slice (some ⟨128,0,none⟩) 4 4,.pointer (some ⟨108,0,none⟩),.pointer (some ⟨108,0,none⟩),.pointer (some ⟨108,4,none⟩),Z 0,.bool true,.pointer (some ⟨108,0,none⟩),.bool false,.bool true,.pointer (some ⟨108,0,none⟩),.pointer (some ⟨108,0,none⟩),.pointer (some ⟨108,1,none⟩),Z 53,.pointer (some ⟨108,0,none⟩),.pointer (some ⟨108,0,none⟩),.pointer (some ⟨108,0,none⟩),.string dC,Z 137,.bool false]++List.replicate 8 undef++[.pointer (some ⟨108,0,none⟩),.pointer (some ⟨108,0,none⟩),.pointer (some ⟨108,3,none⟩),.slice (some ⟨239,0,none⟩) 9 0,Z 9,.bool false]++List.replicate 6 undef++[.slice (some ⟨128,0,none⟩) 4 4,.func (.func 89) #[] #[.pointer (some ⟨126,0,none⟩),.pointer (some ⟨240,0,none⟩)],.bool true,.bool false]++List.replicate 6 undef,
  [(247,.cells (FJ.take 70).toArray 59 (0,0)),
   (240,.cells #[.bool true] 4 (0,0)),
   (128,.cells #[.func (.func 81) #[] #[],.func (.func 82) #[] #[],.func (.func 83) #[] #[],.func (.func 84) #[] #[]] 153 (0,0)),
   (126,.cells #[.pointer (some ⟨108,0,none⟩)] 105 (0,0)),
   (125,.cells #[Z 0,Z 12,Z 38,Z 119,Z 137] 3 (0,0)),
   (108,.cells #[.string dC,Z 54,.slice (some ⟨125,0,none⟩) 5 0,.slice (some ⟨247,0,none⟩) 10 0,Z 0,Z 0] 108 (0,0))],248⟩
noncomputable def NT:Go.Dam.Lit :=
 ⟨[.pointer (some ⟨108,0,none⟩),.pointer (some ⟨126,0,none⟩),.slice (some ⟨128,0,none⟩) 4 4,.pointer (some ⟨328,0,none⟩),.slice (some ⟨128,0,none⟩) 4 4,.pointer (some ⟨108,0,none⟩),.pointer (some ⟨108,0,none⟩),.pointer (some ⟨108,4,none⟩),Z 0,.bool true,.pointer (some ⟨108,0,none⟩),.bool false,.bool true,.pointer (some ⟨108,0,none⟩),.pointer (some ⟨108,0,none⟩),.pointer (some ⟨108,1,none⟩),Z 71,.pointer (some ⟨108,0,none⟩),.pointer (some ⟨108,0,none⟩),.pointer (some ⟨108,0,none⟩),.string dC,Z 137,.bool false]++List.replicate 8 undef++[.pointer (some ⟨108,0,none⟩),.pointer (some ⟨108,0,none⟩),.pointer (some ⟨108,3,none⟩),.slice (some ⟨327,0,none⟩) 19 0,Z 19,.bool false]++List.replicate 6 undef++[.slice (some ⟨128,0,none⟩) 4 4,.func (.func 89) #[] #[.pointer (some ⟨126,0,none⟩),.pointer (some ⟨328,0,none⟩)],.bool true,.bool false]++List.replicate 6 undef,
  [(335,.cells (FJ.take 140).toArray 59 (0,0)),
   (328,.cells #[.bool true] 4 (0,0)),
   (128,.cells #[.func (.func 81) #[] #[],.func (.func 82) #[] #[],.func (.func 83) #[] #[],.func (.func 84) #[] #[]] 153 (0,0)),
   (126,.cells #[.pointer (some ⟨108,0,none⟩)] 105 (0,0)),
   (125,.cells #[Z 0,Z 12,Z 38,Z 119,Z 137] 3 (0,0)),
   (108,.cells #[.string dC,Z 72,.slice (some ⟨125,0,none⟩) 5 0,.slice (some ⟨335,0,none⟩) 20 0,Z 0,Z 0] 108 (0,0))],336⟩
noncomputable def NU:Go.Dam.Lit :=
 ⟨[.pointer (some ⟨108,0,none⟩),.pointer (some ⟨126,0,none⟩),.slice (some ⟨128,0,none⟩) 4 4,.pointer (some ⟨414,0,none⟩),.slice (some ⟨128,0,none⟩) 4 4,.pointer (some ⟨108,0,none⟩),.pointer (some ⟨108,0,none⟩),.pointer (some ⟨108,4,none⟩),Z 0,.bool true,.pointer (some ⟨108,0,none⟩),.bool false,.bool true,.pointer (some ⟨108,0,none⟩),.pointer (some ⟨108,0,none⟩),.pointer (some ⟨108,1,none⟩),Z 86,.pointer (some ⟨108,0,none⟩),.pointer (some ⟨108,0,none⟩),.pointer (some ⟨108,0,none⟩),.string dC,Z 137,.bool false]++List.replicate 8 undef++[.pointer (some ⟨108,0,none⟩),.pointer (some ⟨108,0,none⟩),.pointer (some ⟨108,3,none⟩),.slice (some ⟨413,0,none⟩) 29 0,Z 29,.bool false]++List.replicate 6 undef++[.slice (some ⟨128,0,none⟩) 4 4,.func (.func 89) #[] #[.pointer (some ⟨126,0,none⟩),.pointer (some ⟨414,0,none⟩)],.bool true,.bool false]++List.replicate 6 undef,
  [(421,.cells (FJ.take 210).toArray 59 (0,0)),
   (414,.cells #[.bool true] 4 (0,0)),
   (128,.cells #[.func (.func 81) #[] #[],.func (.func 82) #[] #[],.func (.func 83) #[] #[],.func (.func 84) #[] #[]] 153 (0,0)),
   (126,.cells #[.pointer (some ⟨108,0,none⟩)] 105 (0,0)),
   (125,.cells #[Z 0,Z 12,Z 38,Z 119,Z 137] 3 (0,0)),
   (108,.cells #[.string dC,Z 88,.slice (some ⟨125,0,none⟩) 5 0,.slice (some ⟨421,0,none⟩) 30 0,Z 0,Z 0] 108 (0,0))],422⟩
noncomputable def NV:Go.Dam.Lit :=
 ⟨[.pointer (some ⟨108,0,none⟩),.pointer (some ⟨126,0,none⟩),.slice (some ⟨128,0,none⟩) 4 4,.pointer (some ⟨496,0,none⟩),.slice (some ⟨128,0,none⟩) 4 4,.pointer (some ⟨108,0,none⟩),.pointer (some ⟨108,0,none⟩),.pointer (some ⟨108,4,none⟩),Z 0,.bool true,.pointer (some ⟨108,0,none⟩),.bool true,.bool false,.pointer (some ⟨108,0,none⟩),.pointer (some ⟨108,0,none⟩),.pointer (some ⟨108,1,none⟩),Z 108,.pointer (some ⟨108,0,none⟩),.pointer (some ⟨108,0,none⟩),.pointer (some ⟨108,0,none⟩),.string dC,Z 137,.bool false]++List.replicate 8 undef++[.pointer (some ⟨108,0,none⟩),.pointer (some ⟨108,0,none⟩),.pointer (some ⟨108,3,none⟩),.slice (some ⟨495,0,none⟩) 39 0,Z 39,.bool false]++List.replicate 6 undef++[.slice (some ⟨128,0,none⟩) 4 4,.func (.func 89) #[] #[.pointer (some ⟨126,0,none⟩),.pointer (some ⟨496,0,none⟩)],.bool true,.bool false]++List.replicate 6 undef,
  [(513,.cells (FJ.take 280).toArray 59 (0,0)),
   (496,.cells #[.bool false] 4 (0,0)),
   (128,.cells #[.func (.func 81) #[] #[],.func (.func 82) #[] #[],.func (.func 83) #[] #[],.func (.func 84) #[] #[]] 153 (0,0)),
   (126,.cells #[.pointer (some ⟨108,0,none⟩)] 105 (0,0)),
   (125,.cells #[Z 0,Z 12,Z 38,Z 119,Z 137] 3 (0,0)),
   (108,.cells #[.string dC,Z 112,.slice (some ⟨125,0,none⟩) 5 0,.slice (some ⟨513,0,none⟩) 40 0,Z 0,Z 0] 108 (0,0))],514⟩
noncomputable def NW:Go.Dam.Lit :=
 ⟨[.pointer (some ⟨108,0,none⟩),.pointer (some ⟨126,0,none⟩),.slice (some ⟨128,0,none⟩) 4 4,.pointer (some ⟨590,0,none⟩),.slice (some ⟨128,0,none⟩) 4 4,.pointer (some ⟨108,0,none⟩),.pointer (some ⟨108,0,none⟩),.pointer (some ⟨108,4,none⟩),Z 0,.bool true,.pointer (some ⟨108,0,none⟩),.bool false,.bool true,.pointer (some ⟨108,0,none⟩),.pointer (some ⟨108,0,none⟩),.pointer (some ⟨108,1,none⟩),Z 133,.pointer (some ⟨108,0,none⟩),.pointer (some ⟨108,0,none⟩),.pointer (some ⟨108,0,none⟩),.string dC,Z 137,.bool false]++List.replicate 8 undef++[.pointer (some ⟨108,0,none⟩),.pointer (some ⟨108,0,none⟩),.pointer (some ⟨108,3,none⟩),.slice (some ⟨589,0,none⟩) 49 0,Z 49,.bool false]++List.replicate 6 undef++[.slice (some ⟨128,0,none⟩) 4 4,.func (.func 89) #[] #[.pointer (some ⟨126,0,none⟩),.pointer (some ⟨590,0,none⟩)],.bool true,.bool false]++List.replicate 6 undef,
  [(597,.cells (FJ.take 350).toArray 59 (0,0)),
   (590,.cells #[.bool true] 4 (0,0)),
   (128,.cells #[.func (.func 81) #[] #[],.func (.func 82) #[] #[],.func (.func 83) #[] #[],.func (.func 84) #[] #[]] 153 (0,0)),
   (126,.cells #[.pointer (some ⟨108,0,none⟩)] 105 (0,0)),
   (125,.cells #[Z 0,Z 12,Z 38,Z 119,Z 137] 3 (0,0)),
   (108,.cells #[.string dC,Z 134,.slice (some ⟨125,0,none⟩) 5 0,.slice (some ⟨597,0,none⟩) 50 0,Z 0,Z 0] 108 (0,0))],598⟩
noncomputable def zV:Go.Dam.Lit :=
 ⟨[.pointer (some ⟨108,0,none⟩),.pointer (some ⟨126,0,none⟩),.slice (some ⟨128,0,none⟩) 4 4,.pointer (some ⟨598,0,none⟩),.slice (some ⟨128,0,none⟩) 4 4,.pointer (some ⟨108,0,none⟩),.pointer (some ⟨108,0,none⟩),.pointer (some ⟨108,4,none⟩),Z 0,.bool true,.pointer (some ⟨108,0,none⟩),.bool true,.bool false,.pointer (some ⟨108,0,none⟩),.pointer (some ⟨108,0,none⟩),.pointer (some ⟨108,1,none⟩),Z 135,.pointer (some ⟨108,0,none⟩),.pointer (some ⟨108,0,none⟩),.pointer (some ⟨108,0,none⟩),.string dC,Z 137,.bool false]++List.replicate 8 undef++[.pointer (some ⟨108,0,none⟩),.pointer (some ⟨108,0,none⟩),.pointer (some ⟨108,3,none⟩),.slice (some ⟨597,0,none⟩) 50 0,Z 50,.bool false]++List.replicate 6 undef++[.slice (some ⟨128,0,none⟩) 4 4,.func (.func 89) #[] #[.pointer (some ⟨126,0,none⟩),.pointer (some ⟨598,0,none⟩)],.bool true,.bool false]++List.replicate 6 undef,
  [(605,.cells (FJ.take 357).toArray 59 (0,0)),
   (598,.cells #[.bool false] 4 (0,0)),
   (128,.cells #[.func (.func 81) #[] #[],.func (.func 82) #[] #[],.func (.func 83) #[] #[],.func (.func 84) #[] #[]] 153 (0,0)),
   (126,.cells #[.pointer (some ⟨108,0,none⟩)] 105 (0,0)),
   (125,.cells #[Z 0,Z 12,Z 38,Z 119,Z 137] 3 (0,0)),
   (108,.cells #[.string dC,Z 136,.slice (some ⟨125,0,none⟩) 5 0,.slice (some ⟨605,0,none⟩) 51 0,Z 0,Z 0] 108 (0,0))],606⟩
noncomputable def m0:Go.Dam.Lit :=
 ⟨[.pointer (some ⟨108,0,none⟩),.pointer (some ⟨126,0,none⟩),.slice (some ⟨128,0,none⟩) 4 4,.pointer (some ⟨606,0,none⟩),.slice (some ⟨128,0,none⟩) 4 4,.pointer (some ⟨108,0,none⟩),.pointer (some ⟨108,0,none⟩),.pointer (some ⟨108,4,none⟩),Z 0,.bool true,.pointer (some ⟨108,0,none⟩),.bool true,.bool false,.pointer (some ⟨108,0,none⟩),.pointer (some ⟨108,0,none⟩),.pointer (some ⟨108,1,none⟩),Z 137,.pointer (some ⟨108,0,none⟩),.pointer (some ⟨108,0,none⟩),.pointer (some ⟨108,0,none⟩),.string dC,Z 137,.bool true,.pointer (some ⟨108,0,none⟩),.agg #[Z 0,.string ⟨#[]⟩,Z 0,.string ⟨#[]⟩,Z 0,Z 0,.bool false],.pointer (some ⟨108,0,none⟩),.pointer (some ⟨108,0,none⟩),.pointer (some ⟨108,1,none⟩),Z 137,.bool false,undef,.pointer (some ⟨108,0,none⟩),.pointer (some ⟨108,0,none⟩),.pointer (some ⟨108,3,none⟩),.slice (some ⟨597,0,none⟩) 50 0,Z 50,.bool false]++List.replicate 6 undef++[.slice (some ⟨128,0,none⟩) 4 4,.func (.func 89) #[] #[.pointer (some ⟨126,0,none⟩),.pointer (some ⟨598,0,none⟩)],.bool true,.bool false]++List.replicate 6 undef,
  [(613,.cells FJ.toArray 59 (0,0)),
   (125,.cells #[Z 0,Z 12,Z 38,Z 119,Z 137] 3 (0,0)),
   (108,.cells #[.string dC,Z 137,.slice (some ⟨125,0,none⟩) 5 0,.slice (some ⟨613,0,none⟩) 52 0,Z 0,Z 0] 108 (0,0))],614⟩
noncomputable def aB2:Value:=.tuple #[.slice (some ⟨613,0,none⟩) 52 0,Z 0,Z 0,Z 0]
noncomputable def rB:Go.Dam.Lit :=
 ⟨[],
  [(613,.cells FJ.toArray 59 (0,0))],614⟩
def JY:List (FuncId×List Value×Value) :=
 [(67,[.string ⟨#[56]⟩],.tuple #[.agg #[Z 3,Z 0],Z 0]),
  (67,[.string ⟨#[52]⟩],.tuple #[.agg #[Z 2,Z 0],Z 0]),
  (67,[.string ⟨#[50,46]⟩],.tuple #[.agg #[Z 1,Z 1],Z 0])]
def fsE:Nat:=2 ^ 286-1-2 ^ 67
def fsC:Nat:=2 ^ 286-1-2 ^ 67-2 ^ 20
def fsO:Nat:=2 ^ 286-1-2 ^ 67-2 ^ 20-2 ^ 136-2 ^ 16
noncomputable def uN(orc:FuncId->List Value->St->Option (Value×St))(fs:Nat)(t:Go.Dam.Told):Bool :=
 match j5 orc Tryz.prog fs 3000 40 (.func t.f) t.args ⟨t.heap,t.nx⟩with
 |some (v,S')=>veq t.v v && Nat.beq t.nx' S'.next && vR S'.heap t.out
 |none=>false
noncomputable def xG:Go.Dam.Told :=
 ⟨136,[.pointer (some ⟨104,0,none⟩)],
  [(613,.cells FJ.toArray 59 (0,0)),(104,.cells #[.slice (some ⟨613,0,none⟩) 52 0,Z 14,Z 0,Z 0,Z 0,.bool false,Z 0,Z 3,.map (some 102)] 133 (0,0)),(102,.map #[⟨Z 0,Z 3,0⟩] 1)],870,
  .agg #[.slice none 0 0,.slice (some ⟨1816,0,none⟩) 1 1],
  [(1816,.cells #[.slice (some ⟨1781,0,none⟩) 5 0,.slice (some ⟨905,0,none⟩) 1 0] 48 (0,0)),(1781,.cells #[Z 0,Z 4,Z 1,Z 3,Z 0,.slice (some ⟨1024,0,none⟩) 1 1,.slice none 0 0,Z 0,Z 0,Z 0,.slice none 0 0,Z 0,Z 0,Z 0,Z 5,Z 1,Z 3,Z 0,.slice (some ⟨1182,0,none⟩) 1 1,.slice none 0 0,Z 0,Z 0,Z 0,.slice none 0 0,Z 0,Z 0,Z 0,Z 6,Z 1,Z 3,Z 0,.slice (some ⟨1340,0,none⟩) 1 1,.slice none 0 0,Z 0,Z 0,Z 0,.slice none 0 0,Z 0,Z 0,Z 0,Z 7,Z 1,Z 2,Z 0,.slice (some ⟨1583,0,none⟩) 2 0,.slice none 0 0,Z 4,Z 0,Z 5,.slice (some ⟨1689,0,none⟩) 1 0,Z 0,Z 0,Z 0,Z 8,Z 2,Z 2,Z 0,.slice none 0 0,.slice none 0 0,Z 0,Z 0,Z 0,.slice none 0 0,Z 0,Z 0] 31 (0,0)),(1689,.cells #[.string ⟨#[108,97]⟩,Z 0] 147 (0,0)),(1583,.cells #[Z 0,Z 0,Z 5,.bool true,Z 0,Z 2,Z 0,Z 5,.bool false,Z 0] 80 (0,0)),(1340,.cells #[Z 6,Z 0,Z 4,.bool false,Z 0] 80 (0,0)),(1182,.cells #[Z 5,Z 0,Z 4,.bool false,Z 0] 80 (0,0)),(1024,.cells #[Z 4,Z 0,Z 4,.bool false,Z 0] 80 (0,0)),(905,.cells #[Z 0,Z 3,Z 3,Z 2] 100 (0,0)),(613,.cells FJ.toArray 59 (0,0)),(104,.cells #[.slice (some ⟨613,0,none⟩) 52 0,Z 43,Z 0,Z 0,Z 0,.bool false,Z 0,Z 8,.map (some 102)] 133 (0,0)),(102,.map #[⟨Z 0,Z 8,0⟩] 1)],1822⟩
noncomputable def uP:Go.Dam.Told :=
 ⟨20,[.pointer (some ⟨104,0,none⟩)],
  [(613,.cells FJ.toArray 59 (0,0)),(104,.cells #[.slice (some ⟨613,0,none⟩) 52 0,Z 18,Z 0,Z 0,Z 0,.bool false,Z 0,Z 3,.map (some 102)] 133 (0,0)),(102,.map #[⟨Z 0,Z 3,0⟩] 1)],940,
  .agg #[Z 0,Z 4,Z 1,Z 3,Z 0,.slice (some ⟨1024,0,none⟩) 1 1,.slice none 0 0,Z 0,Z 0,Z 0,.slice none 0 0,Z 0,Z 0],
  [(1024,.cells #[Z 4,Z 0,Z 4,.bool false,Z 0] 80 (0,0)),(613,.cells FJ.toArray 59 (0,0)),(104,.cells #[.slice (some ⟨613,0,none⟩) 52 0,Z 21,Z 0,Z 0,Z 0,.bool false,Z 0,Z 4,.map (some 102)] 133 (0,0)),(102,.map #[⟨Z 0,Z 4,0⟩] 1)],1060⟩
noncomputable def sD:Go.Dam.Told :=
 ⟨20,[.pointer (some ⟨104,0,none⟩)],
  [(613,.cells FJ.toArray 59 (0,0)),(104,.cells #[.slice (some ⟨613,0,none⟩) 52 0,Z 21,Z 0,Z 0,Z 0,.bool false,Z 0,Z 4,.map (some 102)] 133 (0,0)),(102,.map #[⟨Z 0,Z 4,0⟩] 1)],1098,
  .agg #[Z 0,Z 5,Z 1,Z 3,Z 0,.slice (some ⟨1182,0,none⟩) 1 1,.slice none 0 0,Z 0,Z 0,Z 0,.slice none 0 0,Z 0,Z 0],
  [(1182,.cells #[Z 5,Z 0,Z 4,.bool false,Z 0] 80 (0,0)),(613,.cells FJ.toArray 59 (0,0)),(104,.cells #[.slice (some ⟨613,0,none⟩) 52 0,Z 24,Z 0,Z 0,Z 0,.bool false,Z 0,Z 5,.map (some 102)] 133 (0,0)),(102,.map #[⟨Z 0,Z 5,0⟩] 1)],1218⟩
noncomputable def sE:Go.Dam.Told :=
 ⟨20,[.pointer (some ⟨104,0,none⟩)],
  [(613,.cells FJ.toArray 59 (0,0)),(104,.cells #[.slice (some ⟨613,0,none⟩) 52 0,Z 24,Z 0,Z 0,Z 0,.bool false,Z 0,Z 5,.map (some 102)] 133 (0,0)),(102,.map #[⟨Z 0,Z 5,0⟩] 1)],1256,
  .agg #[Z 0,Z 6,Z 1,Z 3,Z 0,.slice (some ⟨1340,0,none⟩) 1 1,.slice none 0 0,Z 0,Z 0,Z 0,.slice none 0 0,Z 0,Z 0],
  [(1340,.cells #[Z 6,Z 0,Z 4,.bool false,Z 0] 80 (0,0)),(613,.cells FJ.toArray 59 (0,0)),(104,.cells #[.slice (some ⟨613,0,none⟩) 52 0,Z 27,Z 0,Z 0,Z 0,.bool false,Z 0,Z 6,.map (some 102)] 133 (0,0)),(102,.map #[⟨Z 0,Z 6,0⟩] 1)],1376⟩
noncomputable def sG:Go.Dam.Told :=
 ⟨20,[.pointer (some ⟨104,0,none⟩)],
  [(613,.cells FJ.toArray 59 (0,0)),(104,.cells #[.slice (some ⟨613,0,none⟩) 52 0,Z 28,Z 0,Z 0,Z 0,.bool false,Z 0,Z 6,.map (some 102)] 133 (0,0)),(102,.map #[⟨Z 0,Z 6,0⟩] 1)],1436,
  .agg #[Z 0,Z 7,Z 1,Z 2,Z 0,.slice (some ⟨1583,0,none⟩) 2 0,.slice none 0 0,Z 4,Z 0,Z 5,.slice (some ⟨1689,0,none⟩) 1 0,Z 0,Z 0],
  [(1689,.cells #[.string ⟨#[108,97]⟩,Z 0] 147 (0,0)),(1583,.cells #[Z 0,Z 0,Z 5,.bool true,Z 0,Z 2,Z 0,Z 5,.bool false,Z 0] 80 (0,0)),(613,.cells FJ.toArray 59 (0,0)),(104,.cells #[.slice (some ⟨613,0,none⟩) 52 0,Z 40,Z 0,Z 0,Z 0,.bool false,Z 0,Z 7,.map (some 102)] 133 (0,0)),(102,.map #[⟨Z 0,Z 7,0⟩] 1)],1696⟩
noncomputable def sH:Go.Dam.Told :=
 ⟨20,[.pointer (some ⟨104,0,none⟩)],
  [(613,.cells FJ.toArray 59 (0,0)),(104,.cells #[.slice (some ⟨613,0,none⟩) 52 0,Z 40,Z 0,Z 0,Z 0,.bool false,Z 0,Z 7,.map (some 102)] 133 (0,0)),(102,.map #[⟨Z 0,Z 7,0⟩] 1)],1722,
  .agg #[Z 0,Z 8,Z 2,Z 2,Z 0,.slice none 0 0,.slice none 0 0,Z 0,Z 0,Z 0,.slice none 0 0,Z 0,Z 0],
  [(613,.cells FJ.toArray 59 (0,0)),(104,.cells #[.slice (some ⟨613,0,none⟩) 52 0,Z 43,Z 0,Z 0,Z 0,.bool false,Z 0,Z 8,.map (some 102)] 133 (0,0)),(102,.map #[⟨Z 0,Z 8,0⟩] 1)],1778⟩
noncomputable def uQ:Go.Dam.Told :=
 ⟨136,[.pointer (some ⟨104,0,none⟩)],
  [(613,.cells FJ.toArray 59 (0,0)),(104,.cells #[.slice (some ⟨613,0,none⟩) 52 0,Z 46,Z 0,Z 0,Z 0,.bool false,Z 0,Z 9,.map (some 102)] 133 (0,0)),(102,.map #[⟨Z 0,Z 9,0⟩] 1)],1960,
  .agg #[.slice none 0 0,.slice (some ⟨2164,0,none⟩) 1 1],
  [(2164,.cells #[.slice (some ⟨2129,0,none⟩) 1 0,.slice none 0 0] 48 (0,0)),(2129,.cells #[Z 0,Z 10,Z 1,Z 1,Z 1,.slice (some ⟨2088,0,none⟩) 1 1,.slice none 0 0,Z 0,Z 0,Z 0,.slice none 0 0,Z 0,Z 0] 31 (0,0)),(2088,.cells #[Z 0,Z 0,Z 5,.bool false,Z 0] 80 (0,0)),(613,.cells FJ.toArray 59 (0,0)),(104,.cells #[.slice (some ⟨613,0,none⟩) 52 0,Z 50,Z 0,Z 0,Z 0,.bool false,Z 0,Z 10,.map (some 102)] 133 (0,0)),(102,.map #[⟨Z 0,Z 10,0⟩] 1)],2170⟩
noncomputable def sJ:Go.Dam.Told :=
 ⟨20,[.pointer (some ⟨104,0,none⟩)],
  [(613,.cells FJ.toArray 59 (0,0)),(104,.cells #[.slice (some ⟨613,0,none⟩) 52 0,Z 46,Z 0,Z 0,Z 0,.bool false,Z 0,Z 9,.map (some 102)] 133 (0,0)),(102,.map #[⟨Z 0,Z 9,0⟩] 1)],2004,
  .agg #[Z 0,Z 10,Z 1,Z 1,Z 1,.slice (some ⟨2088,0,none⟩) 1 1,.slice none 0 0,Z 0,Z 0,Z 0,.slice none 0 0,Z 0,Z 0],
  [(2088,.cells #[Z 0,Z 0,Z 5,.bool false,Z 0] 80 (0,0)),(613,.cells FJ.toArray 59 (0,0)),(104,.cells #[.slice (some ⟨613,0,none⟩) 52 0,Z 50,Z 0,Z 0,Z 0,.bool false,Z 0,Z 10,.map (some 102)] 133 (0,0)),(102,.map #[⟨Z 0,Z 10,0⟩] 1)],2126⟩
end Go.Proofs.YtgkhemnmcgicnaaGreatDoor
