/- Towards the law ParserBlanks, true for every text and all blanks (no condition): one part of the proof. -/
import Derived.Test.YtgkhemnmcgicnaaGreatDoorG01
import Derived.Test.YtgkhemnmcgicnaaGreatDoorG20
import Derived.Deep.RegionHeld3
import Derived.Deep.QuietTactic
import Derived.Test.YtgkhemnmcgicnaaGreatDoorG06
import Derived.Shelf.Strings.Builder1
import Derived.Shelf.Strings.Builder2
import Derived.Shelf.Strings.OnBuilder
import Derived.Shelf.Small.Strs
import Derived.Shelf.Strings.BuilderF
import Derived.Shelf.Strings.Builder2Cap
import Derived.Shelf.Strconv.Atoi
import Derived.Shelf.Strconv.Itoa0
import Derived.Shelf.Strconv.Itoa1
import Derived.Shelf.LaysM
import Derived.Shelf.Strconv.Itoa2
import Derived.Shelf.Strconv.Itoa3
import Derived.Shelf.Strconv.AtoiErrFast
import Derived.Shelf.Strconv.ParseIntEmpty
import Derived.Shelf.Strconv.AtoiFail
import Derived.Shelf.Strconv.Clone
import Derived.Shelf.Strconv.SyntaxError
import Derived.Shelf.LaysC
import Derived.Shelf.Strconv.ToError
import Derived.Shelf.Strconv.Lower
import Derived.Shelf.Strconv.ParseUint10
import Derived.Shelf.Strconv.ParseUint10Empty
import Derived.Shelf.Strconv.ParseUint10Any
import Derived.Shelf.Strconv.ParseInt10
import Derived.Shelf.Strconv.AtoiLong
import Derived.Shelf.Strconv.AtoiInnerAll
import Derived.Shelf.Strconv.RangeError
import Derived.Shelf.Strconv.ToErrorRange
import Derived.Shelf.Strconv.AtoiAll
import Derived.Shelf.Strings.Search1
import Derived.Shelf.Strings.Search2
import Derived.Shelf.Strings.Search3
import Derived.Shelf.Strings.Cut
import Derived.Shelf.Strings.Count
import Derived.Shelf.Strings.Shaped
import Derived.Shelf.Strings.Prefix
import Derived.Shelf.Strings.Split
import Derived.Shelf.Strings.SplitShaped
import Derived.Shelf.Bits.Mul64
import Derived.Shelf.Unicode.DecodeSlow
import Derived.Ground.Names2Prog
import Derived.Shelf.Slices.SearchI
import Derived.Shelf.Slices.Empties
import Derived.Test.YtgkhemnmcgicnaaGreatDoorProg
import Derived.Test.YtgkhemnmcgicnaaGreatDoorG21
import Derived.Lib.SmallJoins
import Derived.Lib.AppendIntMem
namespace Go.Proofs.YtgkhemnmcgicnaaGreatDoor
set_option maxHeartbeats 8000000
set_option maxRecDepth 1000000
open Go.RowKit
def semis:Value:=.agg #[Z 0,Z 2,Z 4,Z 5,Z 7,Z 9,Z 11]
theorem Z1:BV 210 [] semis=true:=by kernel_rfl
theorem gM(w:World):Calls Tryz.prog 210 #[] w fun e w'=>e=.returned semis/\Below w.heap.size w w':=mR (args:=[]) rfl rfl Z1 w
theorem VC(a o:Int)(w:World)(h1:IntKind.i64.wrap (o+1)=o+1)(h2:IntKind.i64.wrap (12*(o+1))=12*(o+1))(h4:IntKind.i64.wrap (12*(o+1)+a)=12*(o+1)+a) :
  Calls Tryz.prog 181 #[.agg #[Z 0,Z a,Z o]] w fun e w'=>e=.returned (Z (12*(o+1)+a))/\Below w.heap.size w w':=by
 have hsm:=gM;unfold semis at hsm;have hix:∀w':World,(Instr.index 279 (.agg #[Z 0,Z 2,Z 4,Z 5,Z 7,Z 9,Z 11]) (Z 0)).run Tryz.prog w'=.ok (Z 0) w':=fun w'=>by kernel_rfl
 go_enter Tryz.func181,Tryz.ntmps181;go_wp2
 go_region_held3 (fun w'=>w'.cell? ⟨w.heap.size,0,none⟩=some (Z 0)/\w'.cell? ⟨w.heap.size,1,none⟩=some (Z a)/\w'.cell? ⟨w.heap.size,2,none⟩=some (Z o)) (go_keep)
  ((go_at_call 210;refine(hsm _).mono ?_;rintro e w1 ⟨rfl,b1⟩;have k0:w1.cell? ⟨w.heap.size,0,none⟩=some (Z 0):=(b1.cell (by simp)).trans (by simp);have k1:w1.cell? ⟨w.heap.size,1,none⟩=some (Z a):=(b1.cell (by simp)).trans (by simp);have k2:w1.cell? ⟨w.heap.size,2,none⟩=some (Z o):=(b1.cell (by simp)).trans (by simp)))
 go_wp2;go_ret;exact⟨rfl,(((qb _ w).alloc (qa _) _).drew).trans (b1.mono (by simp))⟩
theorem VD(a o:Int)(w:World)(h1:IntKind.i64.wrap (o+1)=o+1)(h2:IntKind.i64.wrap (12*(o+1))=12*(o+1))(h3:IntKind.i64.wrap (12*(o+1)+2)=12*(o+1)+2)(h4:IntKind.i64.wrap (12*(o+1)+2+a)=12*(o+1)+2+a) :
  Calls Tryz.prog 181 #[.agg #[Z 1,Z a,Z o]] w fun e w'=>e=.returned (Z (12*(o+1)+2+a))/\Below w.heap.size w w':=by
 have hsm:=gM;unfold semis at hsm;have hix:∀w':World,(Instr.index 279 (.agg #[Z 0,Z 2,Z 4,Z 5,Z 7,Z 9,Z 11]) (Z 1)).run Tryz.prog w'=.ok (Z 2) w':=fun w'=>by kernel_rfl
 go_enter Tryz.func181,Tryz.ntmps181;go_wp2
 go_region_held3 (fun w'=>w'.cell? ⟨w.heap.size,0,none⟩=some (Z 1)/\w'.cell? ⟨w.heap.size,1,none⟩=some (Z a)/\w'.cell? ⟨w.heap.size,2,none⟩=some (Z o)) (go_keep)
  ((go_at_call 210;refine(hsm _).mono ?_;rintro e w1 ⟨rfl,b1⟩;have k0:w1.cell? ⟨w.heap.size,0,none⟩=some (Z 1):=(b1.cell (by simp)).trans (by simp);have k1:w1.cell? ⟨w.heap.size,1,none⟩=some (Z a):=(b1.cell (by simp)).trans (by simp);have k2:w1.cell? ⟨w.heap.size,2,none⟩=some (Z o):=(b1.cell (by simp)).trans (by simp)))
 go_wp2;go_ret;exact⟨rfl,(((qb _ w).alloc (qa _) _).drew).trans (b1.mono (by simp))⟩
theorem VE(a o:Int)(w:World)(h1:IntKind.i64.wrap (o+1)=o+1)(h2:IntKind.i64.wrap (12*(o+1))=12*(o+1))(h3:IntKind.i64.wrap (12*(o+1)+4)=12*(o+1)+4)(h4:IntKind.i64.wrap (12*(o+1)+4+a)=12*(o+1)+4+a) :
  Calls Tryz.prog 181 #[.agg #[Z 2,Z a,Z o]] w fun e w'=>e=.returned (Z (12*(o+1)+4+a))/\Below w.heap.size w w':=by
 have hsm:=gM;unfold semis at hsm;have hix:∀w':World,(Instr.index 279 (.agg #[Z 0,Z 2,Z 4,Z 5,Z 7,Z 9,Z 11]) (Z 2)).run Tryz.prog w'=.ok (Z 4) w':=fun w'=>by kernel_rfl
 go_enter Tryz.func181,Tryz.ntmps181;go_wp2
 go_region_held3 (fun w'=>w'.cell? ⟨w.heap.size,0,none⟩=some (Z 2)/\w'.cell? ⟨w.heap.size,1,none⟩=some (Z a)/\w'.cell? ⟨w.heap.size,2,none⟩=some (Z o)) (go_keep)
  ((go_at_call 210;refine(hsm _).mono ?_;rintro e w1 ⟨rfl,b1⟩;have k0:w1.cell? ⟨w.heap.size,0,none⟩=some (Z 2):=(b1.cell (by simp)).trans (by simp);have k1:w1.cell? ⟨w.heap.size,1,none⟩=some (Z a):=(b1.cell (by simp)).trans (by simp);have k2:w1.cell? ⟨w.heap.size,2,none⟩=some (Z o):=(b1.cell (by simp)).trans (by simp)))
 go_wp2;go_ret;exact⟨rfl,(((qb _ w).alloc (qa _) _).drew).trans (b1.mono (by simp))⟩
theorem VF(a o:Int)(w:World)(h1:IntKind.i64.wrap (o+1)=o+1)(h2:IntKind.i64.wrap (12*(o+1))=12*(o+1))(h3:IntKind.i64.wrap (12*(o+1)+5)=12*(o+1)+5)(h4:IntKind.i64.wrap (12*(o+1)+5+a)=12*(o+1)+5+a) :
  Calls Tryz.prog 181 #[.agg #[Z 3,Z a,Z o]] w fun e w'=>e=.returned (Z (12*(o+1)+5+a))/\Below w.heap.size w w':=by
 have hsm:=gM;unfold semis at hsm;have hix:∀w':World,(Instr.index 279 (.agg #[Z 0,Z 2,Z 4,Z 5,Z 7,Z 9,Z 11]) (Z 3)).run Tryz.prog w'=.ok (Z 5) w':=fun w'=>by kernel_rfl
 go_enter Tryz.func181,Tryz.ntmps181;go_wp2
 go_region_held3 (fun w'=>w'.cell? ⟨w.heap.size,0,none⟩=some (Z 3)/\w'.cell? ⟨w.heap.size,1,none⟩=some (Z a)/\w'.cell? ⟨w.heap.size,2,none⟩=some (Z o)) (go_keep)
  ((go_at_call 210;refine(hsm _).mono ?_;rintro e w1 ⟨rfl,b1⟩;have k0:w1.cell? ⟨w.heap.size,0,none⟩=some (Z 3):=(b1.cell (by simp)).trans (by simp);have k1:w1.cell? ⟨w.heap.size,1,none⟩=some (Z a):=(b1.cell (by simp)).trans (by simp);have k2:w1.cell? ⟨w.heap.size,2,none⟩=some (Z o):=(b1.cell (by simp)).trans (by simp)))
 go_wp2;go_ret;exact⟨rfl,(((qb _ w).alloc (qa _) _).drew).trans (b1.mono (by simp))⟩
theorem VG(a o:Int)(w:World)(h1:IntKind.i64.wrap (o+1)=o+1)(h2:IntKind.i64.wrap (12*(o+1))=12*(o+1))(h3:IntKind.i64.wrap (12*(o+1)+7)=12*(o+1)+7)(h4:IntKind.i64.wrap (12*(o+1)+7+a)=12*(o+1)+7+a) :
  Calls Tryz.prog 181 #[.agg #[Z 4,Z a,Z o]] w fun e w'=>e=.returned (Z (12*(o+1)+7+a))/\Below w.heap.size w w':=by
 have hsm:=gM;unfold semis at hsm;have hix:∀w':World,(Instr.index 279 (.agg #[Z 0,Z 2,Z 4,Z 5,Z 7,Z 9,Z 11]) (Z 4)).run Tryz.prog w'=.ok (Z 7) w':=fun w'=>by kernel_rfl
 go_enter Tryz.func181,Tryz.ntmps181;go_wp2
 go_region_held3 (fun w'=>w'.cell? ⟨w.heap.size,0,none⟩=some (Z 4)/\w'.cell? ⟨w.heap.size,1,none⟩=some (Z a)/\w'.cell? ⟨w.heap.size,2,none⟩=some (Z o)) (go_keep)
  ((go_at_call 210;refine(hsm _).mono ?_;rintro e w1 ⟨rfl,b1⟩;have k0:w1.cell? ⟨w.heap.size,0,none⟩=some (Z 4):=(b1.cell (by simp)).trans (by simp);have k1:w1.cell? ⟨w.heap.size,1,none⟩=some (Z a):=(b1.cell (by simp)).trans (by simp);have k2:w1.cell? ⟨w.heap.size,2,none⟩=some (Z o):=(b1.cell (by simp)).trans (by simp)))
 go_wp2;go_ret;exact⟨rfl,(((qb _ w).alloc (qa _) _).drew).trans (b1.mono (by simp))⟩
theorem VH(a o:Int)(w:World)(h1:IntKind.i64.wrap (o+1)=o+1)(h2:IntKind.i64.wrap (12*(o+1))=12*(o+1))(h3:IntKind.i64.wrap (12*(o+1)+9)=12*(o+1)+9)(h4:IntKind.i64.wrap (12*(o+1)+9+a)=12*(o+1)+9+a) :
  Calls Tryz.prog 181 #[.agg #[Z 5,Z a,Z o]] w fun e w'=>e=.returned (Z (12*(o+1)+9+a))/\Below w.heap.size w w':=by
 have hsm:=gM;unfold semis at hsm;have hix:∀w':World,(Instr.index 279 (.agg #[Z 0,Z 2,Z 4,Z 5,Z 7,Z 9,Z 11]) (Z 5)).run Tryz.prog w'=.ok (Z 9) w':=fun w'=>by kernel_rfl
 go_enter Tryz.func181,Tryz.ntmps181;go_wp2
 go_region_held3 (fun w'=>w'.cell? ⟨w.heap.size,0,none⟩=some (Z 5)/\w'.cell? ⟨w.heap.size,1,none⟩=some (Z a)/\w'.cell? ⟨w.heap.size,2,none⟩=some (Z o)) (go_keep)
  ((go_at_call 210;refine(hsm _).mono ?_;rintro e w1 ⟨rfl,b1⟩;have k0:w1.cell? ⟨w.heap.size,0,none⟩=some (Z 5):=(b1.cell (by simp)).trans (by simp);have k1:w1.cell? ⟨w.heap.size,1,none⟩=some (Z a):=(b1.cell (by simp)).trans (by simp);have k2:w1.cell? ⟨w.heap.size,2,none⟩=some (Z o):=(b1.cell (by simp)).trans (by simp)))
 go_wp2;go_ret;exact⟨rfl,(((qb _ w).alloc (qa _) _).drew).trans (b1.mono (by simp))⟩
theorem VJ(a o:Int)(w:World)(h1:IntKind.i64.wrap (o+1)=o+1)(h2:IntKind.i64.wrap (12*(o+1))=12*(o+1))(h3:IntKind.i64.wrap (12*(o+1)+11)=12*(o+1)+11)(h4:IntKind.i64.wrap (12*(o+1)+11+a)=12*(o+1)+11+a) :
  Calls Tryz.prog 181 #[.agg #[Z 6,Z a,Z o]] w fun e w'=>e=.returned (Z (12*(o+1)+11+a))/\Below w.heap.size w w':=by
 have hsm:=gM;unfold semis at hsm;have hix:∀w':World,(Instr.index 279 (.agg #[Z 0,Z 2,Z 4,Z 5,Z 7,Z 9,Z 11]) (Z 6)).run Tryz.prog w'=.ok (Z 11) w':=fun w'=>by kernel_rfl
 go_enter Tryz.func181,Tryz.ntmps181;go_wp2
 go_region_held3 (fun w'=>w'.cell? ⟨w.heap.size,0,none⟩=some (Z 6)/\w'.cell? ⟨w.heap.size,1,none⟩=some (Z a)/\w'.cell? ⟨w.heap.size,2,none⟩=some (Z o)) (go_keep)
  ((go_at_call 210;refine(hsm _).mono ?_;rintro e w1 ⟨rfl,b1⟩;have k0:w1.cell? ⟨w.heap.size,0,none⟩=some (Z 6):=(b1.cell (by simp)).trans (by simp);have k1:w1.cell? ⟨w.heap.size,1,none⟩=some (Z a):=(b1.cell (by simp)).trans (by simp);have k2:w1.cell? ⟨w.heap.size,2,none⟩=some (Z o):=(b1.cell (by simp)).trans (by simp)))
 go_wp2;go_ret;exact⟨rfl,(((qb _ w).alloc (qa _) _).drew).trans (b1.mono (by simp))⟩
theorem aDP(s a o:Int)(h:¬iM ⟨s,a,o⟩)(w:World):Calls Tryz.prog 181 #[.agg #[Z s,Z a,Z o]] w fun e w'=>e=.returned (Z (K1 ⟨s,a,o⟩))/\Below w.heap.size w w':=by
 simp only[iM]at h;have h1:IntKind.i64.wrap (o+1)=o+1:=IntWalk.i64_in _ (by omega);have h2:IntKind.i64.wrap (12*(o+1))=12*(o+1):=IntWalk.i64_in _ (by omega);have h3:∀m:Int,0<=m->m<=11->IntKind.i64.wrap (12*(o+1)+m)=12*(o+1)+m:=fun m _ _=>IntWalk.i64_in _ (by omega);have h4:∀m:Int,0<=m->m<=11->IntKind.i64.wrap (12*(o+1)+m+a)=12*(o+1)+m+a:=fun m _ _=>IntWalk.i64_in _ (by omega);have hc:s=0\/s=1\/s=2\/s=3\/s=4\/s=5\/s=6:=by omega
 rcases hc with rfl|rfl|rfl|rfl|rfl|rfl|rfl
 ·have:=h4 0 (by decide) (by decide);rw[Int.add_zero]at this;have e:K1 ⟨0,a,o⟩=12*(o+1)+a:=by simp[K1,aJ9]
  rw[e];exact VC a o w h1 h2 this
 ·exact VD a o w h1 h2 (h3 2 (by decide) (by decide)) (h4 2 (by decide) (by decide))
 ·exact VE a o w h1 h2 (h3 4 (by decide) (by decide)) (h4 4 (by decide) (by decide))
 ·exact VF a o w h1 h2 (h3 5 (by decide) (by decide)) (h4 5 (by decide) (by decide))
 ·exact VG a o w h1 h2 (h3 7 (by decide) (by decide)) (h4 7 (by decide) (by decide))
 ·exact VH a o w h1 h2 (h3 9 (by decide) (by decide)) (h4 9 (by decide) (by decide))
 ·exact VJ a o w h1 h2 (h3 11 (by decide) (by decide)) (h4 11 (by decide) (by decide))
theorem aGD(s a o:Int)(w:World):Calls Tryz.prog 148 #[.agg #[Z s,Z a,Z o]] w fun e w'=>e=.returned (Z (sK ⟨s,a,o⟩))/\Below w.heap.size w w':=by
 unfold sK;have b0:=(qb w.heap.size w).alloc (qa _) (.cells #[Z s,Z a,Z o] 75);by_cases h1:s<0
 ·rw[if_pos (by simp only[iM];omega)];go_enter Tryz.func148,Tryz.ntmps148;go_wp2;go_ret;exact⟨rfl,b0⟩
 by_cases h2:6<s
 ·rw[if_pos (by simp only[iM];omega)];go_enter Tryz.func148,Tryz.ntmps148;go_wp2;go_ret;exact⟨rfl,b0⟩
 by_cases h3:a < -2
 ·rw[if_pos (by simp only[iM];omega)];go_enter Tryz.func148,Tryz.ntmps148;go_wp2;go_ret;exact⟨rfl,b0⟩
 by_cases h4:2<a
 ·rw[if_pos (by simp only[iM];omega)];go_enter Tryz.func148,Tryz.ntmps148;go_wp2;go_ret;exact⟨rfl,b0⟩
 by_cases h5:o < -1
 ·rw[if_pos (by simp only[iM];omega)];go_enter Tryz.func148,Tryz.ntmps148;go_wp2;go_ret;exact⟨rfl,b0⟩
 by_cases h6:9<o
 ·rw[if_pos (by simp only[iM];omega)];go_enter Tryz.func148,Tryz.ntmps148;go_wp2;go_ret;exact⟨rfl,b0⟩
 have hno:¬iM ⟨s,a,o⟩:=by simp only[iM];omega
 rw[if_neg hno];have hnm:=aDP s a o hno;generalize K1 ⟨s,a,o⟩=n at hnm⊢;clear hno;by_cases h7:n<0
 ·rw[if_pos (.inl h7)];go_enter Tryz.func148,Tryz.ntmps148;go_wp2_with(go_at_call 181;refine(hnm _).mono ?_);intro e w1;first |(intro he b1;subst he)|rintro⟨rfl,b1⟩
  go_wp2;go_ret;exact⟨rfl,b0.trans (b1.mono (by first|omega|simp))⟩
 by_cases h8:127<n
 ·rw[if_pos (.inr h8)];go_enter Tryz.func148,Tryz.ntmps148;go_wp2_with(go_at_call 181;refine(hnm _).mono ?_);intro e w1;first |(intro he b1;subst he)|rintro⟨rfl,b1⟩
  go_wp2;go_ret;exact⟨rfl,b0.trans (b1.mono (by first|omega|simp))⟩
 ·rw[if_neg (by omega)];go_enter Tryz.func148,Tryz.ntmps148;go_wp2_with(go_at_call 181;refine(hnm _).mono ?_);intro e w1;first |(intro he b1;subst he)|rintro⟨rfl,b1⟩
  go_wp2;go_ret;exact⟨rfl,b0.trans (b1.mono (by first|omega|simp))⟩
end Go.Proofs.YtgkhemnmcgicnaaGreatDoor
namespace Go.Proofs
open Go.Shelf
def Tryz.lays206_ren:Go.Shelf.Ren:=⟨fun|206=>208|n=>n,fun|9=>9|4=>4|3=>3|n=>n,fun|n=>n⟩
theorem Tryz.lays206:Go.Proofs.Lays.n206 Tryz.prog Tryz.lays206_ren:={
 mixed:=by kernel_rfl
 f206:=Tryz.func208.trans (congrArg some (by kernel_rfl))
 t3:=Tryz.underlying3
 a3:=Tryz.isAgg3
 z3:=Tryz.sizeOf3
 v3:=Tryz.zeroValue3
 t4:=Tryz.underlying4
 a4:=Tryz.isAgg4
 z4:=Tryz.sizeOf4
 v4:=Tryz.zeroValue4
 t9:=Tryz.underlying9
 a9:=Tryz.isAgg9
 z9:=Tryz.sizeOf9
 v9:=Tryz.zeroValue9 }
open Go.RowKit Go.Lib in
theorem Tryz.stringslite_HasPrefix(s p:ByteArray)(w:World) :
  Calls Tryz.prog 208 #[.string s,.string p] w fun e w'=>e=.returned (.bool (Lib.hasPrefix s.data.toList p.data.toList))/\w'=w:=Any.stringslite_HasPrefix Tryz.lays206 s p w
end Go.Proofs
namespace Go.Proofs.YtgkhemnmcgicnaaGreatDoor
set_option maxHeartbeats 16000000
set_option maxRecDepth 1000000
open Go.RowKit
structure AE(w:World):Prop where
 a:∃ev,w.cell? ⟨0,0,none⟩=some ev/\(ev=.nilIface\/∃te pe,ev=.iface te pe)
 b:∃ev,w.cell? ⟨1,0,none⟩=some ev/\(ev=.nilIface\/∃te pe,ev=.iface te pe)
 tab:Lib.TabIs Tryz.prog w "internal/strconv.uint64pow10" .u64 Lib.pow10Tab
 len:∃m,w.cell? ⟨2,0,none⟩=some (Z m)
theorem AE.stay{w w':World}(h:AE w)(b:Below w.heap.size w w'):AE w':=by
 obtain⟨⟨u,h1,h2⟩,⟨v,h3,h4⟩,h5,m,h6⟩:=h;exact⟨⟨u,(b.cell (qo w _ h1)).trans h1,h2⟩,⟨v,(b.cell (qo w _ h3)).trans h3,h4⟩,Lib.tabBelow_of_tabIs h5 w' b,m,(b.cell (qo w _ h6)).trans h6⟩
def atN(l:List UInt8):Int:=match Lib.atoiAll l with
 | .ok v=>v
 | .range=>Lib.atoiSat l
 | _=>0
def atE(l:List UInt8):Bool:=match Lib.atoiAll l with
 | .ok _=>false
 | _=>true
def XZ(l:List UInt8)(w:World)(e:Ending)(w':World):Prop :=
 (∃bd,e=.returned (.tuple #[Z (atN l),bd])/\((atE l=false/\bd=.nilIface)\/(atE l=true/\∃t v,bd=.iface t v)))/\Below w.heap.size w w'
theorem JP(s:ByteArray)(hs:s.size<=281474976710656)(w:World)(g:AE w):Calls Tryz.prog 121 #[.string s] w (XZ s.data.toList w):=by
 obtain⟨⟨u,h1,h2⟩,⟨v,h3,h4⟩,h5,-⟩:=g;cases h:Lib.atoiAll s.data.toList with
 |ok n =>
  refine(Tryz.strconv_Atoi_ok s (by omega) n h w).mono ?_;rintro e w' ⟨rfl,hw⟩;refine⟨⟨.nilIface,by unfold atN;rw[h],.inl ⟨by unfold atE;rw[h],rfl⟩⟩,?_⟩;rcases hw with rfl |⟨t,rfl⟩
  ·exact qb _ _
  ·exact Go.Joins.below_bytesWorld _ _ _ _ (qa _)
 |range =>
  refine(Tryz.strconv_Atoi_range s hs h v w h3 h4).mono ?_;rintro e w' ⟨N,rfl,_,_,hb⟩;exact⟨⟨_,by unfold atN;rw[h],.inr ⟨by unfold atE;rw[h],_,_,rfl⟩⟩,hb⟩
 | _ =>
  refine(Tryz.strconv_Atoi_syntax s hs (h.trans rfl) u w h1 h2).mono ?_;rintro e w' ⟨N,rfl,_,_,hb⟩;exact⟨⟨_,by unfold atN;rw[h],.inr ⟨by unfold atE;rw[h],_,_,rfl⟩⟩,hb⟩
def gN(n:Int):ByteArray:=⟨(Lib.itoa n).toArray⟩
theorem aDT(n:Int)(h0:-1<=n)(h1:n<=9)(w:World)(g:AE w):Calls Tryz.prog 147 #[Z n] w fun e w'=>e=.returned (.string (gN n))/\Below w.heap.size w w':=by
 refine(Tryz.strconv_Itoa n (by omega) (by omega) w g.tab).mono ?_;rintro e w' ⟨rfl,k,os,rfl⟩;exact⟨rfl,Lib.below_grow _ _ (qa _) _ _⟩
def aDU:Nat->List UInt8
 |0=>[98,98]
 |1=>[98]
 |2=>[]
 |3=>[35]
 | _=>[35,35]
def xC:Value:=.agg #[.string ⟨#[98,98]⟩,.string ⟨#[98]⟩,.string ⟨#[]⟩,.string ⟨#[35]⟩,.string ⟨#[35,35]⟩]
theorem Z3:BV 145 [] xC=true:=by kernel_rfl
theorem VL(w:World):Calls Tryz.prog 145 #[] w fun e w'=>e=.returned xC/\Below w.heap.size w w':=mR (args:=[]) rfl rfl Z3 w
theorem aDV(w:World):(Instr.index 223 xC (Z 0)).run Tryz.prog w=.ok (.string ⟨#[98,98]⟩) w:=by kernel_rfl
theorem aDW(w:World):(Instr.index 223 xC (Z 1)).run Tryz.prog w=.ok (.string ⟨#[98]⟩) w:=by kernel_rfl
theorem aDX(w:World):(Instr.index 223 xC (Z 2)).run Tryz.prog w=.ok (.string ⟨#[]⟩) w:=by kernel_rfl
theorem aDY(w:World):(Instr.index 223 xC (Z 3)).run Tryz.prog w=.ok (.string ⟨#[35]⟩) w:=by kernel_rfl
theorem aDZ(w:World):(Instr.index 223 xC (Z 4)).run Tryz.prog w=.ok (.string ⟨#[35,35]⟩) w:=by kernel_rfl
theorem aGE{k:Nat}(h:k<5)(w:World):(Instr.index 223 xC (Z (k:Int))).run Tryz.prog w=.ok (.string (mk (aDU k))) w:=by
 have hc:k=0\/k=1\/k=2\/k=3\/k=4:=by omega
 rcases hc with rfl|rfl|rfl|rfl|rfl
 ·exact aDV w
 ·exact aDW w
 ·exact aDX w
 ·exact aDY w
 ·exact aDZ w
def Z4(s p:ByteArray):ByteArray:=if Lib.hasPrefix s.data.toList p.data.toList=true then s.extract p.size s.size else s
theorem aJQ(s p:ByteArray)(_hs:s.size<=281474976710656)(w:World):Calls Tryz.prog 179 #[.string s,.string p] w fun e w'=>e=.returned (.tuple #[.string (Z4 s p),.bool (Lib.hasPrefix s.data.toList p.data.toList)])/\Below w.heap.size w w':=by
 have hp:=Tryz.stringslite_HasPrefix s p w;unfold Z4;cases h:Lib.hasPrefix s.data.toList p.data.toList with
 |true =>
  rw[h]at hp;rw[if_pos rfl];have hle:p.size<=s.size:=by
   have:=(List.isPrefixOf_iff_prefix.1 h).length_le;rwa[cG,cG]at this
  have h0:(0:Int)<=(p.size:Int):=by omega
  have h1:(p.size:Int)<=(s.size:Int):=by omega
  clear h;go_enter Tryz.func179,Tryz.ntmps179;go_wp2_with(go_at_call 208;refine hp.mono ?_;rintro e w2 ⟨rfl,rfl⟩);refine qg (qqb rfl _ _ _) rfl ?_;exact⟨rfl,qb _ _⟩
 |false =>
  rw[h]at hp;rw[if_neg (by decide)];clear h;go_enter Tryz.func179,Tryz.ntmps179;go_wp2_with(go_at_call 208;refine hp.mono ?_;rintro e w2 ⟨rfl,rfl⟩);refine qg (qqb rfl _ _ _) rfl ?_;exact⟨rfl,qb _ _⟩
theorem aGF(s p:ByteArray)(hs:s.size<=281474976710656)(w:World):Calls Tryz.prog 146 #[.string s,.string p] w fun e w'=>e=.returned (.tuple #[.string (Z4 s p),.bool (Lib.hasPrefix s.data.toList p.data.toList)])/\Below w.heap.size w w':=by
 have hp:=aJQ s p hs w;generalize Z4 s p=c at hp⊢;generalize Lib.hasPrefix s.data.toList p.data.toList=b at hp⊢;go_enter Tryz.func146,Tryz.ntmps146;go_wp2_with(go_at_call 179;refine hp.mono ?_);intro e w1;first |(intro he b1;subst he)|rintro⟨rfl,b1⟩
 go_wp2;refine qg (qqb rfl _ _ _) rfl ?_;exact⟨rfl,b1⟩
def ovK(rest:ByteArray)(k:Nat):ByteArray:=Z4 rest (mk (aDU k))
def isK(rest:ByteArray)(k:Nat):Bool:=Lib.hasPrefix rest.data.toList (mk (aDU k)).data.toList
def nK(rest:ByteArray)(k:Nat):Int:=atN (ovK rest k).data.toList
def eK(rest:ByteArray)(k:Nat):Bool:=atE (ovK rest k).data.toList
def KX(rest:ByteArray)(k:Nat):Prop:=isK rest k=true/\eK rest k=false/\-1<=nK rest k/\nK rest k<=9/\gN (nK rest k)=ovK rest k
theorem aD0(rest:ByteArray)(k:Nat):(ovK rest k).size<=rest.size:=by
 unfold ovK Z4;split
 ·rw[qqh];omega
 ·exact qa _
theorem lN{P:Program}{fn:Func}{p t u:Tmp}{ty:TypeId}(h:fn.results=#[.cell p ty,.tmp t,.tmp u])(tmps:Array Value)(w:World)(g:Nat)(T:TypeId)(cs:Array Value)(fr:Nat×Nat)(d:TypeDesc)
  (hp:tmps.getD p undef=.pointer (some ⟨g,0,none⟩)) (hg:w.heap[g]?=some (.cells cs T fr))
  (hu:P.underlying ty=some d) (hd:(match d with | .struct _ | .array _ _=>true | _=>false)=true) (hi:(P.info? ty).map (·.size)=some cs.size) :
  (results fn tmps).run P w=.ok (.tuple #[.agg cs,tmps.getD t undef,tmps.getD u undef]) w:=by
 have hp':tmps[p]?.getD undef=.pointer (some ⟨g,0,none⟩):=by simpa using hp
 simp[results,h,hp',asAddr,run_loadVar_row w g T ty cs fr d hg hu hd hi,Result.andThen]
theorem Tryz.sizePitch3:(Tryz.prog.info? 75).map (·.size)=some 3:=by kernel_rfl
def m7(w:World)(X:Nat)(a b c:Value):World:=((w.setCell ⟨X,0,none⟩ a).setCell ⟨X,1,none⟩ b).setCell ⟨X,2,none⟩ c
theorem gP{w:World}{X:Nat}{a b c x y z:Value}{t:TypeId}(h:w.heap[X]?=some (.cells #[x,y,z] t (0,0))):(m7 w X a b c).heap[X]?=some (.cells #[a,b,c] t (0,0)):=by
 unfold m7;rw[Lib.heap_setCell_same (i:=2) (Lib.heap_setCell_same (i:=1) (Lib.heap_setCell_same (i:=0) h a) b) c];rfl
theorem m8{B:Nat}{a w:World}{X:Nat}(h:Below B a w)(hX:B<=X)(u v z:Value):Below B a (m7 w X u v z) :=
 ((h.setCell (p:=⟨X,0,none⟩) hX u).setCell (p:=⟨X,1,none⟩) hX v).setCell (p:=⟨X,2,none⟩) hX z
theorem dD{w:World}{X:Nat}{a b c:Value}{t:TypeId}(h:w.heap[X]?=some (.cells #[a,b,c] t (0,0))) :
  w.cell? ⟨X,0,none⟩=some a/\w.cell? ⟨X,1,none⟩=some b/\w.cell? ⟨X,2,none⟩=some c/\w.frozen? ⟨X,0,none⟩=false/\w.frozen? ⟨X,1,none⟩=false/\w.frozen? ⟨X,2,none⟩=false:=by
 refine⟨?_,?_,?_,Lib.frozen_of_heap h 0,Lib.frozen_of_heap h 1,Lib.frozen_of_heap h 2⟩<;>(rw[Lib.cell_of_heap h];rfl)
def pL:ByteArray:=⟨#[67,68,69,70,71,65,66]⟩
def JQ(p:m9):Value:=.agg #[Z p.st,Z p.al,Z p.oc]
def zP:m9:=⟨0,0,0⟩
theorem VM(s rest:ByteArray)(st:Int)(r:Nat)(hr5:r<=5)(hlen':0<s.size)(hsz:s.size<=281474976710656)(hx:s.extract 1 s.size=rest)(hst:0<=st)
  (hidx:∀w,Calls Tryz.prog 127 #[.string ⟨#[67,68,69,70,71,65,66]⟩,.int .u8 ((s[0]'hlen').toNat:Nat)] w fun e w'=>e=.returned (Z st)/\w'=w)
  (hno:∀k,k<r->¬KX rest k) (hit:r<5->KX rest r) (p:m9) (a e:Int)
  (hout:if r<5 then(if sK ⟨st,(r:Int)-2,nK rest r⟩=0 then p=⟨st,(r:Int)-2,nK rest r⟩/\a=0/\e=0 else p=zP/\a=0/\e=sK ⟨st,(r:Int)-2,nK rest r⟩)else p=zP/\a=1/\e=3) (w:World) (g:AE w) :
  Calls Tryz.prog 111 #[.string s] w fun e' w'=>e'=.returned (.tuple #[JQ p,Z a,Z e])/\Below w.heap.size w w':=by
 have hne:s.toList.isEmpty=false:=eH hlen';have hlen:(0:Int)<(s.size:Int):=by omega
 have hlen1:(1:Int)<=(s.size:Int):=by omega
 have hsg:=VL;have b0:=(qb w.heap.size w).alloc (qa _) (.cells #[Z 0,Z 0,Z 0] 75);have hst':¬st<0:=by omega
 have hrs:rest.size<=281474976710656:=by rw[<-hx,qqh];omega
 go_enter Tryz.func111,Tryz.ntmps111;go_wp2_with(first
  |(go_at_call 127;refine(hidx _).mono ?_;rintro e w' ⟨rfl,rfl⟩)
  |(go_at_call 145;refine(hsg _).mono ?_))
 intro e0 w1;first |(intro he b1;subst he)|rintro⟨rfl,b1⟩
 have hR:=(b1.block w.heap.size (by simp)).trans (qd w _);have bb:=b0.trans (b1.mono (by first|omega|simp));have HO:=aJ hout;have HN:=aJ hno;have HI:=aJ hit;have HR:=aJ hr5;clear b1 hidx hsg b0 hout hno hit;go_wp2
 go_loopg [22] (6:Nat) (fun g v wr=>∃k:Nat,k<=r/\g=6-k/\v=Z (k:Nat)/\Below w.heap.size w wr/\wr.heap[w.heap.size]?=some (.cells #[Z 0,Z 0,Z 0] 75 (0,0)))
 case atStart=>exact⟨0,ql _,rfl,rfl,bb,hR⟩
 case round =>
  clear bb hR;obtain⟨k,hk,hg,rfl,hb,hR⟩:=hrel;have m1:IntKind.i64.wrap ((k:Int)+1)=(k:Int)+1:=IntWalk.i64_in _ (by omega);by_cases hk5':k<5
  ·have hk5:(k:Int)<5:=by omega
   have hsa:=fun w=>aGE (k:=k) (by omega) w;have q1:=fun w=>aGF rest (mk (aDU k)) hrs w;have q2:=fun w (g:AE w)=>JP (ovK rest k) (qx (aD0 rest k) hrs) w g;have hhit:KX rest k↔isK rest k=true/\eK rest k=false/\-1<=nK rest k/\nK rest k<=9/\gN (nK rest k)=ovK rest k:=Iff.rfl;have HW:Shut (k<r->¬(isK rest k=true/\eK rest k=false/\-1<=nK rest k/\nK rest k<=9/\gN (nK rest k)=ovK rest k)):=fun h=>HN.out k h;have HX:Shut (¬k<r->k=r/\(isK rest k=true/\eK rest k=false/\-1<=nK rest k/\nK rest k<=9/\gN (nK rest k)=ovK rest k)):=fun h=>by
    have e:k=r:=by omega
    refine⟨e,?_⟩;have:=HI.out (by omega);rw[<-e]at this;exact this
   unfold XZ at q2;have hq1:(∀w,Calls Tryz.prog 146 #[.string rest,.string (mk (aDU k))] w fun e w'=>e=.returned (.tuple #[.string (ovK rest k),.bool (isK rest k)])/\Below w.heap.size w w'):=q1;have hq2:∀w,AE w->Calls Tryz.prog 121 #[.string (ovK rest k)] w fun e w'=>(∃bd,e=.returned (.tuple #[Z (nK rest k),bd])/\((eK rest k=false/\bd=.nilIface)\/(eK rest k=true/\∃t v,bd=.iface t v)))/\Below w.heap.size w w':=q2;clear q1 q2 hhit HN HI;have HO2:Shut (k=r->if r<5 then(if sK ⟨st,(k:Int)-2,nK rest k⟩=0 then p=⟨st,(k:Int)-2,nK rest k⟩/\a=0/\e=0 else p=zP/\a=0/\e=sK ⟨st,(k:Int)-2,nK rest k⟩)else p=zP/\a=1/\e=3):=fun h=>by
    have:=HO.out;rw[<-h]at this⊢;exact this
   clear HO;generalize ovK rest k=ov at hq1 hq2 HW HX HO2;generalize isK rest k=is at hq1 HW HX;generalize nK rest k=n at hq2 HW HX HO2;generalize eK rest k=er at hq2 HW HX;go_wp2_with(go_at_call 146;refine(hq1 _).mono ?_);intro e1 w2;first |(intro he b2;subst he)|rintro⟨rfl,b2⟩
   have hb2:=hb.trans (b2.mono hb.size);have hR2:=(b2.block _ (qe.1 hR).1).trans hR;have g2:=g.stay hb2;clear hq1 b2 hR hsa;go_wp2_with(go_at_call 121;refine(hq2 _ g2).mono ?_);rintro e1 w3 ⟨⟨bd,rfl,hbd⟩,b3⟩;have hb3:=hb2.trans (b3.mono hb2.size);have hR3:=(b3.block _ (qe.1 hR2).1).trans hR2;have g3:=g.stay hb3;clear hq2 b3 hR2 g2;cases is with
   |false =>
    have hlt:k<r:=by
     rcases Nat.lt_or_ge k r with h|h
     ·exact h
     ·exact absurd (HX.out (by omega)).2.1 (by decide)
    go_wp2;go_roundg (6-(k+1));case measure=>omega
    case rel=>exact⟨k+1,by omega,rfl,by simp,hb3,hR3⟩
   |true =>
    rcases hbd with⟨rfl,rfl⟩ |⟨rfl,t,v,rfl⟩
    ·by_cases hn1:n < -1
     ·have hlt:k<r:=by
       rcases Nat.lt_or_ge k r with h|h
       ·exact h
       ·have:=(HX.out (by omega)).2.2.2.1;omega
      go_wp2;go_roundg (6-(k+1));case measure=>omega
      case rel=>exact⟨k+1,by omega,rfl,by simp,hb3,hR3⟩
     ·by_cases hn9:9<n
      ·have hlt:k<r:=by
        rcases Nat.lt_or_ge k r with h|h
        ·exact h
        ·have:=(HX.out (by omega)).2.2.2.2.1;omega
       go_wp2;go_roundg (6-(k+1));case measure=>omega
       case rel=>exact⟨k+1,by omega,rfl,by simp,hb3,hR3⟩
      ·have hit:=aDT n (by omega) (by omega) w3 g3;by_cases hio:gN n=ov
       ·have hkr:k=r:=by
         rcases Nat.lt_or_ge k r with h|h
         ·exact absurd ⟨rfl,rfl,by omega,by omega,hio⟩ (HW.out h)
         ·omega
        have hfin:=HO2.out hkr;rw[if_pos (by omega)]at hfin;rw[hio]at hit;obtain⟨al,hal⟩:∃al:Int,al=(k:Int)-2:=⟨_,rfl⟩;have hw2:IntKind.i64.wrap ((k:Int)-2)=al:=by rw[hal];exact IntWalk.i64_in _ (by omega)
        have hck:=fun w=>aGD st al n w;rw[<-hal]at hfin;clear HW HX HO2 HR hio hkr g3 hal;generalize sK ⟨st,al,n⟩=pe at hck hfin;have HF:=aJ hfin;clear hfin;go_wp2_with(go_at_call 147;refine hit.mono ?_);intro e1 w4;first |(intro he b4;subst he)|rintro⟨rfl,b4⟩
        have hb4:=hb3.trans (b4.mono hb3.size);have hR4:=(b4.block _ (qe.1 hR3).1).trans hR3;obtain⟨r0,r1,r2,fr0,fr1,fr2⟩:=dD hR4;have hR5:=gP (a:=Z st) (b:=Z al) (c:=Z n) hR4;have hb5:=m8 hb4 (qa _) (Z st) (Z al) (Z n);clear hit b4 hR3 hR4;unfold m7 at hR5 hb5;go_wp2_with(go_at_call 148;refine(hck _).mono ?_);intro e1 w5;first |(intro he b5;subst he)|rintro⟨rfl,b5⟩
        have hR6:=(b5.block _ (qe.1 hR5).1).trans hR5;have hb6:=hb5.trans (b5.mono hb5.size);clear hck hb5 hR5 b5 r0 r1 r2 fr0 fr1 fr2;obtain⟨r0,r1,r2,fr0,fr1,fr2⟩:=dD hR6;by_cases hpe:pe=0
        ·subst hpe;have hfin:=HF.out;rw[if_pos rfl]at hfin;obtain⟨rfl,rfl,rfl⟩:=hfin;clear HF;have hR7:=gP (a:=Z st) (b:=Z al) (c:=Z n) hR6;have hb7:=m8 hb6 (qa _) (Z st) (Z al) (Z n);unfold m7 at hR7 hb7;go_wp2;exact qg (lN rfl _ _ w.heap.size 75 _ (0,0) _ rfl hR7 Tryz.underlying75 rfl Tryz.sizePitch3) rfl ⟨rfl,hb7⟩
        ·have hfin:=HF.out;rw[if_neg hpe]at hfin;obtain⟨rfl,rfl,rfl⟩:=hfin;clear HF;have hR7:=gP (a:=Z 0) (b:=Z 0) (c:=Z 0) hR6;have hb7:=m8 hb6 (qa _) (Z 0) (Z 0) (Z 0);unfold m7 at hR7 hb7;go_wp2;exact qg (lN rfl _ _ w.heap.size 75 _ (0,0) _ rfl hR7 Tryz.underlying75 rfl Tryz.sizePitch3) rfl ⟨rfl,hb7⟩
       ·have hlt:k<r:=by
         rcases Nat.lt_or_ge k r with h|h
         ·exact h
         ·exact absurd (HX.out (by omega)).2.2.2.2.2 hio
        have hio':=qK hio;clear HW HX HO2 HR hio g3;generalize gN n=io at hit hio';have hbe:(io.toList==ov.toList)=false:=by simpa using hio'
        go_wp2_with(go_at_call 147;refine hit.mono ?_);intro e1 w4;first |(intro he b4;subst he)|rintro⟨rfl,b4⟩
        have hb4:=hb3.trans (b4.mono hb3.size);have hR4:=(b4.block _ (qe.1 hR3).1).trans hR3;clear hit b4 hR3;go_wp2;go_roundg (6-(k+1));case measure=>omega
        case rel=>exact⟨k+1,by omega,rfl,by simp,hb4,hR4⟩
    ·have hlt:k<r:=by
      rcases Nat.lt_or_ge k r with h|h
      ·exact h
      ·exact absurd (HX.out (by omega)).2.2.1 (by decide)
     go_wp2;go_roundg (6-(k+1));case measure=>omega
     case rel=>exact⟨k+1,by omega,rfl,by simp,hb3,hR3⟩
  ·have hk5:¬(k:Int)<5:=by omega
   have hr:r=5:=by have:=HR.out;omega
   have hfin:=HO.out;rw[if_neg (by omega)]at hfin;obtain⟨rfl,rfl,rfl⟩:=hfin;obtain⟨r0,r1,r2,fr0,fr1,fr2⟩:=dD hR;have hR7:=gP (a:=Z 0) (b:=Z 0) (c:=Z 0) hR;have hb7:=m8 hb (qa _) (Z 0) (Z 0) (Z 0);unfold m7 at hR7 hb7;clear HO HN HI HR;go_wp2;exact qg (lN rfl _ _ w.heap.size 75 _ (0,0) _ rfl hR7 Tryz.underlying75 rfl Tryz.sizePitch3) rfl ⟨rfl,hb7⟩
end Go.Proofs.YtgkhemnmcgicnaaGreatDoor
