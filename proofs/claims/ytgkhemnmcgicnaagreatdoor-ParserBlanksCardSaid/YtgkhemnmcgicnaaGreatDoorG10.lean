/- Towards the law ParserBlanks, true for every text and all blanks (no condition): one part of the proof. -/
import Derived.Test.YtgkhemnmcgicnaaGreatDoorG06
import Derived.Test.YtgkhemnmcgicnaaGreatDoorG01
import Derived.Test.YtgkhemnmcgicnaaGreatDoorG07
import Derived.Test.YtgkhemnmcgicnaaGreatDoorG08
import Derived.Test.YtgkhemnmcgicnaaGreatDoorG09
namespace Go.Proofs.YtgkhemnmcgicnaaGreatDoor
set_option maxRecDepth 1000000
open Go.RowKit Go.Dam
theorem C9:uN (kB JY [] [uP,sD,sE,sG,sH,sJ]) fsC uQ=true:=by kernel_rfl
theorem FC:uN (kB JY [] []) fsE sH=true:=by kernel_rfl
theorem zU(s:ByteArray)(v:Value)(hv:plain v=true)(h:vJ s v=true):W4 Tryz.prog (67,[.string s],v):=by
 refine⟨fun x hx => ?_,hv,fun w => ?_⟩
 ·obtain rfl:=qqq.1 hx;rfl
 ·unfold vJ at h;split at h
  ·rename_i u S he;obtain rfl:=qX h;refine T6 (args:=[.string s]) G1 nW (iD lJ) (N6 _) (h:=[]) (nx:=100) rfl (by decide) (qqj (by kernel_rfl)) ?_ hv he rfl ?_
   ·intro x hx;obtain rfl:=qqq.1 hx;rfl
   ·intro n o hn;cases hn
  ·cases h
theorem qA:∀t∈JY,W4 Tryz.prog t:=by
 intro t ht;simp only[JY,qqt,List.not_mem_nil,or_false]at ht;rcases ht with rfl|rfl|rfl
 ·exact zU _ _ rfl aHG
 ·exact zU _ _ rfl aHH
 ·exact zU _ _ rfl aHJ
theorem pC{orc:FuncId->List Value->St->Option (Value×St)}(horc:G0 Tryz.prog orc){fs:Nat}{t:Go.Dam.Told}(h:uN orc fs t=true):LE Tryz.prog t :=
 aBT nW (iD lJ) horc (N6 fs) h
theorem D4:∀t∈([]:List GM),QT Tryz.prog t:=fun _ h=>by cases h
theorem LR:∀t∈([]:List Go.Dam.Told),LE Tryz.prog t:=fun _ h=>by cases h
theorem LS:∀t∈[uP,sD,sE,sG,sH,sJ],LE Tryz.prog t:=by
 intro t ht;simp only[qqt,List.not_mem_nil,or_false]at ht;rcases ht with rfl|rfl|rfl|rfl|rfl|rfl
 ·exact pC (gZ qA D4 LR) JX
 ·exact pC (gZ qA D4 LR) E9
 ·exact pC (gZ qA D4 LR) FA
 ·exact pC (gZ qA D4 LR) FB
 ·exact pC (gZ qA D4 LR) FC
 ·exact pC (gZ qA D4 LR) FD
theorem aBY:∀t∈[xG,uQ],LE Tryz.prog t:=by
 intro t ht;simp only[qqt,List.not_mem_nil,or_false]at ht;rcases ht with rfl|rfl
 ·exact pC (gZ qA D4 LS) E8
 ·exact pC (gZ qA D4 LS) C9
theorem aBZ(hs:QT Tryz.prog XH)(w:World):Calls Tryz.prog 11 #[] w fun e w'=>e=.returned (.bool true)/\Below w.heap.size w w':=by
 have hr:=Y2;unfold isTrue at hr;split at hr
 ·rename_i S he;refine T6 (args:=[]) (gZ qA (fun t ht=>by obtain rfl:=qqq.1 ht;exact hs) aBY) nW (iD lJ) (N6 _) (h:=[]) (nx:=100) rfl (by decide) (qqj (by kernel_rfl)) (by simp) rfl he rfl ?_;intro n o hn;cases hn
 ·cases hr
end Go.Proofs.YtgkhemnmcgicnaaGreatDoor
