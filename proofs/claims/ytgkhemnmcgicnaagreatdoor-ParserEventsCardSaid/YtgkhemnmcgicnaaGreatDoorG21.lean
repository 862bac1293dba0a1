/- Towards the law ParserEvents, true for every text (no condition): one part of the proof. -/
import Derived.Test.YtgkhemnmcgicnaaGreatDoorG01
import Derived.Test.YtgkhemnmcgicnaaGreatDoorG20
import Derived.Test.YtgkhemnmcgicnaaGreatDoorG10
import Derived.Lib.SmallJoins
import Derived.Lib.AppendIntMem
namespace Go.Proofs.YtgkhemnmcgicnaaGreatDoor
set_option maxHeartbeats 16000000
set_option maxRecDepth 1000000
open Go.RowKit
structure Glo (w : World) : Prop where
 a : ∃ ev, w.cell? ⟨0, 0, none⟩ = some ev /\ (ev = .nilIface \/ ∃ te pe, ev = .iface te pe)
 b : ∃ ev, w.cell? ⟨1, 0, none⟩ = some ev /\ (ev = .nilIface \/ ∃ te pe, ev = .iface te pe)
 tab : Lib.TabIs Tryz.prog w "internal/strconv.uint64pow10" .u64 Lib.pow10Tab
theorem Glo.stay {w w' : World} (h : Glo w) (b : Below w.heap.size w w') : Glo w' := by
 obtain ⟨⟨u, h1, h2⟩, ⟨v, h3, h4⟩, h5⟩ := h
 exact ⟨⟨u, (b.cell (World.block_lt_of_cell? w _ h1)).trans h1, h2⟩, ⟨v, (b.cell (World.block_lt_of_cell? w _ h3)).trans h3, h4⟩, Lib.tabBelow_of_tabIs h5 w' b⟩
def atN (l : List UInt8) : Int := match Lib.atoiAll l with
 | .ok v => v
 | .range => Lib.atoiSat l
 | _ => 0
def atE (l : List UInt8) : Bool := match Lib.atoiAll l with
 | .ok _ => false
 | _ => true
def AtEnd (l : List UInt8) (w : World) (e : Ending) (w' : World) : Prop :=
 (∃ bd, e = .returned (.tuple #[I (atN l), bd]) /\ ((atE l = false /\ bd = .nilIface) \/ (atE l = true /\ ∃ t v, bd = .iface t v))) /\ Below w.heap.size w w'
theorem atoi_any (s : ByteArray) (hs : s.size <= 281474976710656) (w : World) (g : Glo w) : Calls Tryz.prog 121 #[.string s] w (AtEnd s.data.toList w) := by
 obtain ⟨⟨u, h1, h2⟩, ⟨v, h3, h4⟩, h5⟩ := g
 cases h : Lib.atoiAll s.data.toList with
 | ok n =>
  refine (Tryz.strconv_Atoi_ok s (by omega) n h w).mono ?_
  rintro e w' ⟨rfl, hw⟩
  refine ⟨⟨.nilIface, by unfold atN; rw [h], .inl ⟨by unfold atE; rw [h], rfl⟩⟩, ?_⟩
  rcases hw with rfl | ⟨t, rfl⟩
  ·exact Below.refl _ _
  ·exact Go.Joins.below_bytesWorld _ _ _ _ (Nat.le_refl _)
 | range =>
  refine (Tryz.strconv_Atoi_range s hs h v w h3 h4).mono ?_
  rintro e w' ⟨N, rfl, _, _, hb⟩
  exact ⟨⟨_, by unfold atN; rw [h], .inr ⟨by unfold atE; rw [h], _, _, rfl⟩⟩, hb⟩
 | _ =>
  refine (Tryz.strconv_Atoi_syntax s hs (h.trans rfl) u w h1 h2).mono ?_
  rintro e w' ⟨N, rfl, _, _, hb⟩
  exact ⟨⟨_, by unfold atN; rw [h], .inr ⟨by unfold atE; rw [h], _, _, rfl⟩⟩, hb⟩
def itoaS (n : Int) : ByteArray := ⟨(Lib.itoa n).toArray⟩
theorem itoa_any (n : Int) (h0 : -1 <= n) (h1 : n <= 9) (w : World) (g : Glo w) : Calls Tryz.prog 147 #[I n] w fun e w' => e = .returned (.string (itoaS n)) /\ Below w.heap.size w w' := by
 refine (Tryz.strconv_Itoa n (by omega) (by omega) w g.tab).mono ?_
 rintro e w' ⟨rfl, k, os, rfl⟩
 exact ⟨rfl, Lib.below_grow _ _ (Nat.le_refl _) _ _⟩
def sgnL : Nat -> List UInt8
 | 0 => [98, 98]
 | 1 => [98]
 | 2 => []
 | 3 => [35]
 | _ => [35, 35]
def signsV : Value := .agg #[.string ⟨#[98, 98]⟩, .string ⟨#[98]⟩, .string ⟨#[]⟩, .string ⟨#[35]⟩, .string ⟨#[35, 35]⟩]
theorem signs_run : runsV 145 [] signsV = true := by kernel_rfl
theorem signs_walk (w : World) : Calls Tryz.prog 145 #[] w fun e w' => e = .returned signsV /\ Below w.heap.size w w' := runsV_says (args := []) rfl rfl signs_run w
theorem sign_at0 (w : World) : (Instr.index 223 signsV (I 0)).run Tryz.prog w = .ok (.string ⟨#[98, 98]⟩) w := by kernel_rfl
theorem sign_at1 (w : World) : (Instr.index 223 signsV (I 1)).run Tryz.prog w = .ok (.string ⟨#[98]⟩) w := by kernel_rfl
theorem sign_at2 (w : World) : (Instr.index 223 signsV (I 2)).run Tryz.prog w = .ok (.string ⟨#[]⟩) w := by kernel_rfl
theorem sign_at3 (w : World) : (Instr.index 223 signsV (I 3)).run Tryz.prog w = .ok (.string ⟨#[35]⟩) w := by kernel_rfl
theorem sign_at4 (w : World) : (Instr.index 223 signsV (I 4)).run Tryz.prog w = .ok (.string ⟨#[35, 35]⟩) w := by kernel_rfl
theorem sign_at {k : Nat} (h : k < 5) (w : World) : (Instr.index 223 signsV (I (k : Int))).run Tryz.prog w = .ok (.string (mk (sgnL k))) w := by
 have hc : k = 0 \/ k = 1 \/ k = 2 \/ k = 3 \/ k = 4 := by omega
 rcases hc with rfl | rfl | rfl | rfl | rfl
 ·exact sign_at0 w
 ·exact sign_at1 w
 ·exact sign_at2 w
 ·exact sign_at3 w
 ·exact sign_at4 w
def cutV (s p : ByteArray) : ByteArray := if Lib.hasPrefix s.data.toList p.data.toList = true then s.extract p.size s.size else s
theorem cut179 (s p : ByteArray) (_hs : s.size <= 281474976710656) (w : World) : Calls Tryz.prog 179 #[.string s, .string p] w fun e w' => e = .returned (.tuple #[.string (cutV s p), .bool (Lib.hasPrefix s.data.toList p.data.toList)]) /\ Below w.heap.size w w' := by
 have hp := Tryz.stringslite_HasPrefix s p w
 unfold cutV
 cases h : Lib.hasPrefix s.data.toList p.data.toList with
 | true =>
  rw [h] at hp
  rw [if_pos rfl]
  have hle : p.size <= s.size := by
   have := (List.isPrefixOf_iff_prefix.1 h).length_le
   rwa [size_list, size_list] at this
  have h0 : (0 : Int) <= (p.size : Int) := by omega
  have h1 : (p.size : Int) <= (s.size : Int) := by omega
  clear h
  go_enter Tryz.func179, Tryz.ntmps179
  go_wp2_with (go_at_call 208; refine hp.mono ?_; rintro e w2 ⟨rfl, rfl⟩)
  refine bodyPost_ret (results_tmp2 rfl _ _ _) rfl ?_
  exact ⟨rfl, Below.refl _ _⟩
 | false =>
  rw [h] at hp
  rw [if_neg (by decide)]
  clear h
  go_enter Tryz.func179, Tryz.ntmps179
  go_wp2_with (go_at_call 208; refine hp.mono ?_; rintro e w2 ⟨rfl, rfl⟩)
  refine bodyPost_ret (results_tmp2 rfl _ _ _) rfl ?_
  exact ⟨rfl, Below.refl _ _⟩
theorem cut_any (s p : ByteArray) (hs : s.size <= 281474976710656) (w : World) : Calls Tryz.prog 146 #[.string s, .string p] w fun e w' => e = .returned (.tuple #[.string (cutV s p), .bool (Lib.hasPrefix s.data.toList p.data.toList)]) /\ Below w.heap.size w w' := by
 have hp := cut179 s p hs w
 generalize cutV s p = c at hp ⊢
 generalize Lib.hasPrefix s.data.toList p.data.toList = b at hp ⊢
 go_enter Tryz.func146, Tryz.ntmps146
 go_wp2_with (go_at_call 179; refine hp.mono ?_)
 intro e w1; first | (intro he b1; subst he) | rintro ⟨rfl, b1⟩
 go_wp2
 refine bodyPost_ret (results_tmp2 rfl _ _ _) rfl ?_
 exact ⟨rfl, b1⟩
def ovK (rest : ByteArray) (k : Nat) : ByteArray := cutV rest (mk (sgnL k))
def isK (rest : ByteArray) (k : Nat) : Bool := Lib.hasPrefix rest.data.toList (mk (sgnL k)).data.toList
def nK (rest : ByteArray) (k : Nat) : Int := atN (ovK rest k).data.toList
def eK (rest : ByteArray) (k : Nat) : Bool := atE (ovK rest k).data.toList
def HitK (rest : ByteArray) (k : Nat) : Prop := isK rest k = true /\ eK rest k = false /\ -1 <= nK rest k /\ nK rest k <= 9 /\ itoaS (nK rest k) = ovK rest k
theorem ovK_size (rest : ByteArray) (k : Nat) : (ovK rest k).size <= rest.size := by
 unfold ovK cutV
 split
 ·rw [ByteArray.size_extract]; omega
 ·exact Nat.le_refl _
theorem results_cell2 {P : Program} {fn : Func} {p t u : Tmp} {ty : TypeId} (h : fn.results = #[.cell p ty, .tmp t, .tmp u]) (tmps : Array Value) (w : World) (g : Nat) (T : TypeId) (cs : Array Value) (fr : Nat × Nat) (d : TypeDesc)
  (hp : tmps.getD p undef = .pointer (some ⟨g, 0, none⟩)) (hg : w.heap[g]? = some (.cells cs T fr))
  (hu : P.underlying ty = some d) (hd : (match d with | .struct _ | .array _ _ => true | _ => false) = true) (hi : (P.info? ty).map (·.size) = some cs.size) :
  (results fn tmps).run P w = .ok (.tuple #[.agg cs, tmps.getD t undef, tmps.getD u undef]) w := by
 have hp' : tmps[p]?.getD undef = .pointer (some ⟨g, 0, none⟩) := by simpa using hp
 simp [results, h, hp', asAddr, run_loadVar_row w g T ty cs fr d hg hu hd hi, Result.andThen]
theorem Tryz.sizePitch3 : (Tryz.prog.info? 75).map (·.size) = some 3 := by kernel_rfl
def fill3 (w : World) (X : Nat) (a b c : Value) : World := ((w.setCell ⟨X, 0, none⟩ a).setCell ⟨X, 1, none⟩ b).setCell ⟨X, 2, none⟩ c
theorem fill3_self {w : World} {X : Nat} {a b c x y z : Value} {t : TypeId} (h : w.heap[X]? = some (.cells #[x, y, z] t (0, 0))) : (fill3 w X a b c).heap[X]? = some (.cells #[a, b, c] t (0, 0)) := by
 unfold fill3
 rw [Lib.heap_setCell_same (i := 2) (Lib.heap_setCell_same (i := 1) (Lib.heap_setCell_same (i := 0) h a) b) c]; rfl
theorem fill3_below {B : Nat} {a w : World} {X : Nat} (h : Below B a w) (hX : B <= X) (u v z : Value) : Below B a (fill3 w X u v z) :=
 ((h.setCell (p := ⟨X, 0, none⟩) hX u).setCell (p := ⟨X, 1, none⟩) hX v).setCell (p := ⟨X, 2, none⟩) hX z
theorem fill3_size (w : World) (X : Nat) (a b c : Value) : (fill3 w X a b c).heap.size = w.heap.size := by unfold fill3; simp [World.setCell]
theorem three_cells {w : World} {X : Nat} {a b c : Value} {t : TypeId} (h : w.heap[X]? = some (.cells #[a, b, c] t (0, 0))) :
  w.cell? ⟨X, 0, none⟩ = some a /\ w.cell? ⟨X, 1, none⟩ = some b /\ w.cell? ⟨X, 2, none⟩ = some c /\ w.frozen? ⟨X, 0, none⟩ = false /\ w.frozen? ⟨X, 1, none⟩ = false /\ w.frozen? ⟨X, 2, none⟩ = false := by
 refine ⟨?_, ?_, ?_, Lib.frozen_of_heap h 0, Lib.frozen_of_heap h 1, Lib.frozen_of_heap h 2⟩ <;> (rw [Lib.cell_of_heap h]; rfl)
def lettersS : ByteArray := ⟨#[67, 68, 69, 70, 71, 65, 66]⟩
def pAgg (p : PitchV) : Value := .agg #[I p.st, I p.al, I p.oc]
def zP : PitchV := ⟨0, 0, 0⟩
theorem parse_find (s rest : ByteArray) (st : Int) (r : Nat) (hr5 : r <= 5) (hlen' : 0 < s.size) (hsz : s.size <= 281474976710656) (hx : s.extract 1 s.size = rest) (hst : 0 <= st)
  (hidx : ∀ w, Calls Tryz.prog 127 #[.string ⟨#[67, 68, 69, 70, 71, 65, 66]⟩, .int .u8 ((s[0]'hlen').toNat : Nat)] w fun e w' => e = .returned (I st) /\ w' = w)
  (hno : ∀ k, k < r -> ¬ HitK rest k) (hit : r < 5 -> HitK rest r) (p : PitchV) (a e : Int)
  (hout : if r < 5 then (if pitchE ⟨st, (r : Int) - 2, nK rest r⟩ = 0 then p = ⟨st, (r : Int) - 2, nK rest r⟩ /\ a = 0 /\ e = 0 else p = zP /\ a = 0 /\ e = pitchE ⟨st, (r : Int) - 2, nK rest r⟩) else p = zP /\ a = 1 /\ e = 3) (w : World) (g : Glo w) :
  Calls Tryz.prog 111 #[.string s] w fun e' w' => e' = .returned (.tuple #[pAgg p, I a, I e]) /\ Below w.heap.size w w' := by
 have hne : s.toList.isEmpty = false := nonempty_list hlen'
 have hlen : (0 : Int) < (s.size : Int) := by omega
 have hlen1 : (1 : Int) <= (s.size : Int) := by omega
 have hsg := signs_walk
 have b0 := (Below.refl w.heap.size w).alloc (Nat.le_refl _) (.cells #[I 0, I 0, I 0] 75)
 have hst' : ¬ st < 0 := by omega
 have hrs : rest.size <= 281474976710656 := by rw [<- hx, ByteArray.size_extract]; omega
 go_enter Tryz.func111, Tryz.ntmps111
 go_wp2_with (first
  | (go_at_call 127; refine (hidx _).mono ?_; rintro e w' ⟨rfl, rfl⟩)
  | (go_at_call 145; refine (hsg _).mono ?_))
 intro e0 w1; first | (intro he b1; subst he) | rintro ⟨rfl, b1⟩
 have hR := (b1.block w.heap.size (by simp)).trans (heap_alloc_new w _)
 have bb := b0.trans (b1.mono (by first | omega | simp))
 have HO := shut hout
 have HN := shut hno
 have HI := shut hit
 have HR := shut hr5
 clear b1 hidx hsg b0 hout hno hit
 go_wp2
 go_loopg [22] (6 : Nat) (fun g v wr => ∃ k : Nat, k <= r /\ g = 6 - k /\ v = I (k : Nat) /\ Below w.heap.size w wr /\ wr.heap[w.heap.size]? = some (.cells #[I 0, I 0, I 0] 75 (0, 0)))
 case atStart => exact ⟨0, Nat.zero_le _, rfl, rfl, bb, hR⟩
 case round =>
  clear bb hR
  obtain ⟨k, hk, hg, rfl, hb, hR⟩ := hrel
  have m1 : IntKind.i64.wrap ((k : Int) + 1) = (k : Int) + 1 := IntWalk.i64_in _ (by omega)
  by_cases hk5' : k < 5
  ·have hk5 : (k : Int) < 5 := by omega
   have hsa := fun w => sign_at (k := k) (by omega) w
   have q1 := fun w => cut_any rest (mk (sgnL k)) hrs w
   have q2 := fun w (g : Glo w) => atoi_any (ovK rest k) (Nat.le_trans (ovK_size rest k) hrs) w g
   have hhit : HitK rest k ↔ isK rest k = true /\ eK rest k = false /\ -1 <= nK rest k /\ nK rest k <= 9 /\ itoaS (nK rest k) = ovK rest k := Iff.rfl
   have HW : Shut (k < r -> ¬ (isK rest k = true /\ eK rest k = false /\ -1 <= nK rest k /\ nK rest k <= 9 /\ itoaS (nK rest k) = ovK rest k)) := fun h => HN.out k h
   have HX : Shut (¬ k < r -> k = r /\ (isK rest k = true /\ eK rest k = false /\ -1 <= nK rest k /\ nK rest k <= 9 /\ itoaS (nK rest k) = ovK rest k)) := fun h => by
    have e : k = r := by omega
    refine ⟨e, ?_⟩
    have := HI.out (by omega)
    rw [<- e] at this
    exact this
   unfold AtEnd at q2
   have hq1 : (∀ w, Calls Tryz.prog 146 #[.string rest, .string (mk (sgnL k))] w fun e w' => e = .returned (.tuple #[.string (ovK rest k), .bool (isK rest k)]) /\ Below w.heap.size w w') := q1
   have hq2 : ∀ w, Glo w -> Calls Tryz.prog 121 #[.string (ovK rest k)] w fun e w' => (∃ bd, e = .returned (.tuple #[I (nK rest k), bd]) /\ ((eK rest k = false /\ bd = .nilIface) \/ (eK rest k = true /\ ∃ t v, bd = .iface t v))) /\ Below w.heap.size w w' := q2
   clear q1 q2 hhit HN HI
   have HO2 : Shut (k = r -> if r < 5 then (if pitchE ⟨st, (k : Int) - 2, nK rest k⟩ = 0 then p = ⟨st, (k : Int) - 2, nK rest k⟩ /\ a = 0 /\ e = 0 else p = zP /\ a = 0 /\ e = pitchE ⟨st, (k : Int) - 2, nK rest k⟩) else p = zP /\ a = 1 /\ e = 3) := fun h => by
    have := HO.out
    rw [<- h] at this ⊢
    exact this
   clear HO
   generalize ovK rest k = ov at hq1 hq2 HW HX HO2
   generalize isK rest k = is at hq1 HW HX
   generalize nK rest k = n at hq2 HW HX HO2
   generalize eK rest k = er at hq2 HW HX
   go_wp2_with (go_at_call 146; refine (hq1 _).mono ?_)
   intro e1 w2; first | (intro he b2; subst he) | rintro ⟨rfl, b2⟩
   have hb2 := hb.trans (b2.mono hb.size)
   have hR2 := (b2.block _ (Array.getElem?_eq_some_iff.1 hR).1).trans hR
   have g2 := g.stay hb2
   clear hq1 b2 hR hsa
   go_wp2_with (go_at_call 121; refine (hq2 _ g2).mono ?_)
   rintro e1 w3 ⟨⟨bd, rfl, hbd⟩, b3⟩
   have hb3 := hb2.trans (b3.mono hb2.size)
   have hR3 := (b3.block _ (Array.getElem?_eq_some_iff.1 hR2).1).trans hR2
   have g3 := g.stay hb3
   clear hq2 b3 hR2 g2
   cases is with
   | false =>
    have hlt : k < r := by
     rcases Nat.lt_or_ge k r with h | h
     ·exact h
     ·exact absurd (HX.out (by omega)).2.1 (by decide)
    go_wp2
    go_roundg (6 - (k + 1))
    case measure => omega
    case rel => exact ⟨k + 1, by omega, rfl, by simp, hb3, hR3⟩
   | true =>
    rcases hbd with ⟨rfl, rfl⟩ | ⟨rfl, t, v, rfl⟩
    ·by_cases hn1 : n < -1
     ·have hlt : k < r := by
       rcases Nat.lt_or_ge k r with h | h
       ·exact h
       ·have := (HX.out (by omega)).2.2.2.1; omega
      go_wp2
      go_roundg (6 - (k + 1))
      case measure => omega
      case rel => exact ⟨k + 1, by omega, rfl, by simp, hb3, hR3⟩
     ·by_cases hn9 : 9 < n
      ·have hlt : k < r := by
        rcases Nat.lt_or_ge k r with h | h
        ·exact h
        ·have := (HX.out (by omega)).2.2.2.2.1; omega
       go_wp2
       go_roundg (6 - (k + 1))
       case measure => omega
       case rel => exact ⟨k + 1, by omega, rfl, by simp, hb3, hR3⟩
      ·have hit := itoa_any n (by omega) (by omega) w3 g3
       by_cases hio : itoaS n = ov
       ·have hkr : k = r := by
         rcases Nat.lt_or_ge k r with h | h
         ·exact absurd ⟨rfl, rfl, by omega, by omega, hio⟩ (HW.out h)
         ·omega
        have hfin := HO2.out hkr
        rw [if_pos (by omega)] at hfin
        rw [hio] at hit
        obtain ⟨al, hal⟩ : ∃ al : Int, al = (k : Int) - 2 := ⟨_, rfl⟩
        have hw2 : IntKind.i64.wrap ((k : Int) - 2) = al := by rw [hal]; exact IntWalk.i64_in _ (by omega)
        have hck := fun w => check58 st al n w
        rw [<- hal] at hfin
        clear HW HX HO2 HR hio hkr g3 hal
        generalize pitchE ⟨st, al, n⟩ = pe at hck hfin
        have HF := shut hfin
        clear hfin
        go_wp2_with (go_at_call 147; refine hit.mono ?_)
        intro e1 w4; first | (intro he b4; subst he) | rintro ⟨rfl, b4⟩
        have hb4 := hb3.trans (b4.mono hb3.size)
        have hR4 := (b4.block _ (Array.getElem?_eq_some_iff.1 hR3).1).trans hR3
        obtain ⟨r0, r1, r2, fr0, fr1, fr2⟩ := three_cells hR4
        have hR5 := fill3_self (a := I st) (b := I al) (c := I n) hR4
        have hb5 := fill3_below hb4 (Nat.le_refl _) (I st) (I al) (I n)
        clear hit b4 hR3 hR4
        unfold fill3 at hR5 hb5
        go_wp2_with (go_at_call 148; refine (hck _).mono ?_)
        intro e1 w5; first | (intro he b5; subst he) | rintro ⟨rfl, b5⟩
        have hR6 := (b5.block _ (Array.getElem?_eq_some_iff.1 hR5).1).trans hR5
        have hb6 := hb5.trans (b5.mono hb5.size)
        clear hck hb5 hR5 b5 r0 r1 r2 fr0 fr1 fr2
        obtain ⟨r0, r1, r2, fr0, fr1, fr2⟩ := three_cells hR6
        by_cases hpe : pe = 0
        ·subst hpe
         have hfin := HF.out
         rw [if_pos rfl] at hfin
         obtain ⟨rfl, rfl, rfl⟩ := hfin
         clear HF
         have hR7 := fill3_self (a := I st) (b := I al) (c := I n) hR6
         have hb7 := fill3_below hb6 (Nat.le_refl _) (I st) (I al) (I n)
         unfold fill3 at hR7 hb7
         go_wp2
         exact bodyPost_ret (results_cell2 rfl _ _ w.heap.size 75 _ (0, 0) _ rfl hR7 Tryz.underlying75 rfl Tryz.sizePitch3) rfl ⟨rfl, hb7⟩
        ·have hfin := HF.out
         rw [if_neg hpe] at hfin
         obtain ⟨rfl, rfl, rfl⟩ := hfin
         clear HF
         have hR7 := fill3_self (a := I 0) (b := I 0) (c := I 0) hR6
         have hb7 := fill3_below hb6 (Nat.le_refl _) (I 0) (I 0) (I 0)
         unfold fill3 at hR7 hb7
         go_wp2
         exact bodyPost_ret (results_cell2 rfl _ _ w.heap.size 75 _ (0, 0) _ rfl hR7 Tryz.underlying75 rfl Tryz.sizePitch3) rfl ⟨rfl, hb7⟩
       ·have hlt : k < r := by
         rcases Nat.lt_or_ge k r with h | h
         ·exact h
         ·exact absurd (HX.out (by omega)).2.2.2.2.2 hio
        have hio' := toList_ne hio
        clear HW HX HO2 HR hio g3
        generalize itoaS n = io at hit hio'
        have hbe : (io.toList == ov.toList) = false := by simpa using hio'
        go_wp2_with (go_at_call 147; refine hit.mono ?_)
        intro e1 w4; first | (intro he b4; subst he) | rintro ⟨rfl, b4⟩
        have hb4 := hb3.trans (b4.mono hb3.size)
        have hR4 := (b4.block _ (Array.getElem?_eq_some_iff.1 hR3).1).trans hR3
        clear hit b4 hR3
        go_wp2
        go_roundg (6 - (k + 1))
        case measure => omega
        case rel => exact ⟨k + 1, by omega, rfl, by simp, hb4, hR4⟩
    ·have hlt : k < r := by
      rcases Nat.lt_or_ge k r with h | h
      ·exact h
      ·exact absurd (HX.out (by omega)).2.2.1 (by decide)
     go_wp2
     go_roundg (6 - (k + 1))
     case measure => omega
     case rel => exact ⟨k + 1, by omega, rfl, by simp, hb3, hR3⟩
  ·have hk5 : ¬ (k : Int) < 5 := by omega
   have hr : r = 5 := by have := HR.out; omega
   have hfin := HO.out
   rw [if_neg (by omega)] at hfin
   obtain ⟨rfl, rfl, rfl⟩ := hfin
   obtain ⟨r0, r1, r2, fr0, fr1, fr2⟩ := three_cells hR
   have hR7 := fill3_self (a := I 0) (b := I 0) (c := I 0) hR
   have hb7 := fill3_below hb (Nat.le_refl _) (I 0) (I 0) (I 0)
   unfold fill3 at hR7 hb7
   clear HO HN HI HR
   go_wp2
   exact bodyPost_ret (results_cell2 rfl _ _ w.heap.size 75 _ (0, 0) _ rfl hR7 Tryz.underlying75 rfl Tryz.sizePitch3) rfl ⟨rfl, hb7⟩
end Go.Proofs.YtgkhemnmcgicnaaGreatDoor
