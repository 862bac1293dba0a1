/- Towards the law ParserVoices, true for every text (no condition): one part of the proof. -/
import Derived.Test.YtgkhemnmcgicnaaGreatDoorG01
import Derived.Test.YtgkhemnmcgicnaaGreatDoorG10
import Derived.Deep.LoopGhost
import Derived.Deep.RegionHeld3
import Derived.Deep.RegionHeld
namespace Go.Proofs.YtgkhemnmcgicnaaGreatDoor
set_option maxHeartbeats 8000000
set_option maxRecDepth 100000
open Go.RowKit
def yS (t : bD) : Bool := decide (t.kind = 1) && (decide (65 <= yU t.text) && decide (yU t.text <= 71))
theorem KZ (T : List bD) (st : aU) : fG T st = yS (aW T st) := rfl
theorem C0 {x : ByteArray} (h : 0 < x.size) : yU x = x[0].toNat := by
 unfold yU
 have e := HD (s := x) 0 h
 have e2 : x.data.toList.head? = some x[0] := by rw [List.head?_eq_getElem?]; exact e
 rw [List.headD_eq_head?_getD, e2]
 rfl
theorem i6.word {T : List bD} (h : i6 T) (st : aU) (hk : (aW T st).kind = 1) : 0 < (aW T st).text.size := by
 cases st with
 | ok p =>
  rcases Nat.lt_or_ge (p + 1) T.length with h1 | h1
  ·exact (h.ok p h1).word hk
  ·rcases Nat.lt_or_ge p T.length with h2 | h2
   ·have e : p = T.length - 1 := by omega
    have := h.last.1
    rw [<- e] at this
    rw [show (T.getD p dA).kind = 1 from hk] at this
    cases this
   ·have e : T.getD p dA = dA := by rw [qqm, List.getElem?_eq_none h2]; rfl
    rw [show (aW T (.ok p)).kind = (T.getD p dA).kind from rfl, e] at hk
    cases hk
 | bad e l c => cases hk
section
variable {w : World}
theorem NJ {Y : Nat} (t : bD) (hp : Calls Tryz.prog 62 #[.pointer (some ⟨Y, 0, none⟩)] w fun r w' => r = .returned (fK t) /\ Below w.heap.size w w') (hw : t.kind = 1 -> 0 < t.text.size) {b : Bool} (hb : yS t = b) :
  Calls Tryz.prog 116 #[.pointer (some ⟨Y, 0, none⟩)] w fun r w' => r = .returned (.bool b) /\ Below w.heap.size w w' := by
 obtain ⟨kd, text, v, bt, lin, cl, j⟩ := t
 simp only [yS, fK] at hb hp hw
 by_cases h1 : kd = 1
 ·subst h1
  have hsz := hw rfl
  rw [C0 hsz] at hb
  have hs0 : (0 : Int) < (text.size : Int) := by omega
  obtain ⟨m, hm⟩ : ∃ m : Int, m = ((text[0].toNat : Nat) : Int) := ⟨_, rfl⟩
  have hq : ((text[0].toNat : Nat) : Int) = m := hm.symm
  by_cases h5 : 65 <= text[0].toNat
  ·have g5 : (65 : Int) <= m := by omega
   by_cases h7 : text[0].toNat <= 71
   ·have g7 : m <= 71 := by omega
    have hbt : b = true := by rw [<- hb]; simp [h5, h7]
    clear hb hm hw h5 h7
    subst hbt
    go_enter Tryz.func116, Tryz.ntmps116
    go_wp2_with (go_at_call 62; refine hp.mono ?_)
    intro r w1; first | (intro he b1; subst he) | rintro ⟨rfl, b1⟩
    go_wp2
    go_ret
    exact ⟨by first | rfl | simp, b1.alloc b1.size _⟩
   ·have g7 : ¬ m <= 71 := by omega
    have hbt : b = false := by rw [<- hb]; simp [h7]
    clear hb hm hw h5 h7
    subst hbt
    go_enter Tryz.func116, Tryz.ntmps116
    go_wp2_with (go_at_call 62; refine hp.mono ?_)
    intro r w1; first | (intro he b1; subst he) | rintro ⟨rfl, b1⟩
    go_wp2
    go_ret
    exact ⟨by first | rfl | simp [g7], b1.alloc b1.size _⟩
  ·have g5 : ¬ (65 : Int) <= m := by omega
   have hbt : b = false := by rw [<- hb]; simp [h5]
   clear hb hm hw h5
   subst hbt
   go_enter Tryz.func116, Tryz.ntmps116
   go_wp2_with (go_at_call 62; refine hp.mono ?_)
   intro r w1; first | (intro he b1; subst he) | rintro ⟨rfl, b1⟩
   go_wp2
   go_ret
   exact ⟨by first | rfl | simp, b1.alloc b1.size _⟩
 ·have hbt : b = false := by rw [<- hb]; simp [h1]
  clear hb hw
  subst hbt
  go_enter Tryz.func116, Tryz.ntmps116
  go_wp2_with (go_at_call 62; refine hp.mono ?_)
  intro r w1; first | (intro he b1; subst he) | rintro ⟨rfl, b1⟩
  go_wp2
  go_ret
  exact ⟨by first | rfl | simp, b1.alloc b1.size _⟩
theorem FD {T : List bD} {Y M : Nat} {free : Bool} {st : aU} (h : PS T Y M free st w) : Calls Tryz.prog 116 #[.pointer (some ⟨Y, 0, none⟩)] w fun r w' => r = .returned (.bool (fG T st)) /\ Below w.heap.size w w' :=
 NJ _ (pA h) (fun hk => h.good.word st hk) rfl
theorem K0 {X : Nat} (t : bD) (hp : Calls Tryz.prog 31 #[.pointer (some ⟨X, 0, none⟩)] w fun r w' => r = .returned (fK t) /\ Below w.heap.size w w') (hw : t.kind = 1 -> 0 < t.text.size) {b : Bool} (hb : yS t = b) :
  Calls Tryz.prog 79 #[.pointer (some ⟨X, 0, none⟩)] w fun r w' => r = .returned (.bool b) /\ Below w.heap.size w w' := by
 obtain ⟨kd, text, v, bt, lin, cl, j⟩ := t
 simp only [yS, fK] at hb hp hw
 by_cases h1 : kd = 1
 ·subst h1
  have hsz := hw rfl
  have hemp := dM hsz
  rw [C0 hsz] at hb
  have hs0 : (0 : Int) < (text.size : Int) := by omega
  obtain ⟨m, hm⟩ : ∃ m : Int, m = ((text[0].toNat : Nat) : Int) := ⟨_, rfl⟩
  have hq : ((text[0].toNat : Nat) : Int) = m := hm.symm
  by_cases h5 : 65 <= text[0].toNat
  ·have g5 : (65 : Int) <= m := by omega
   by_cases h7 : text[0].toNat <= 71
   ·have g7 : m <= 71 := by omega
    have hbt : b = true := by rw [<- hb]; simp [h5, h7]
    clear hb hm hw h5 h7
    subst hbt
    go_enter Tryz.func79, Tryz.ntmps79
    go_wp2_with (go_at_call 31; refine hp.mono ?_)
    intro r w1; first | (intro he b1; subst he) | rintro ⟨rfl, b1⟩
    go_wp2
    go_ret
    exact ⟨by first | rfl | simp, b1.alloc b1.size _⟩
   ·have g7 : ¬ m <= 71 := by omega
    have hbt : b = false := by rw [<- hb]; simp [h7]
    clear hb hm hw h5 h7
    subst hbt
    go_enter Tryz.func79, Tryz.ntmps79
    go_wp2_with (go_at_call 31; refine hp.mono ?_)
    intro r w1; first | (intro he b1; subst he) | rintro ⟨rfl, b1⟩
    go_wp2
    go_ret
    exact ⟨by first | rfl | simp [g7], b1.alloc b1.size _⟩
  ·have g5 : ¬ (65 : Int) <= m := by omega
   have hbt : b = false := by rw [<- hb]; simp [h5]
   clear hb hm hw h5
   subst hbt
   go_enter Tryz.func79, Tryz.ntmps79
   go_wp2_with (go_at_call 31; refine hp.mono ?_)
   intro r w1; first | (intro he b1; subst he) | rintro ⟨rfl, b1⟩
   go_wp2
   go_ret
   exact ⟨by first | rfl | simp, b1.alloc b1.size _⟩
 ·have hbt : b = false := by rw [<- hb]; simp [h1]
  clear hb hw
  subst hbt
  go_enter Tryz.func79, Tryz.ntmps79
  go_wp2_with (go_at_call 31; refine hp.mono ?_)
  intro r w1; first | (intro he b1; subst he) | rintro ⟨rfl, b1⟩
  go_wp2
  go_ret
  exact ⟨by first | rfl | simp, b1.alloc b1.size _⟩
section
variable {T : List bD} {X : Nat} {free : Bool} {lv iv : Value} {st : aU}
theorem C1 (h : MS T X free lv iv st w) : Calls Tryz.prog 79 #[.pointer (some ⟨X, 0, none⟩)] w fun r w' => r = .returned (.bool (fG T st)) /\ Below w.heap.size w w' :=
 K0 _ (pR h) (fun hk => h.good.word st hk) rfl
theorem FE (h : MS T X free lv iv st w) : Calls Tryz.prog 37 #[.pointer (some ⟨X, 0, none⟩)] w fun r w' => r = .returned (.bool (jN T st)) /\ Below w.heap.size w w' := by
 have hi := fun w' (b : Below w.heap.size w w') (x : ByteArray) => uP (h.step b) x
 have hp := fun w' (b : Below w.heap.size w w') => C1 (h.step b)
 unfold jN
 clear h
 cases e0 : isS T ⟨#[64]⟩ st with
 | true =>
  go_enter Tryz.func37, Tryz.ntmps37
  have h0 := hi w (qa _ _) ⟨#[64]⟩
  rw [e0] at h0
  go_wp2_with (go_at_call 27; refine h0.mono ?_)
  intro r w1; first | (intro he b1; subst he) | rintro ⟨rfl, b1⟩
  clear h0
  clear hi hp
  go_wp2
  go_ret
  exact ⟨rfl, b1⟩
 | false =>
  cases e1 : isS T ⟨#[103, 114, 97, 99, 101]⟩ st with
  | true =>
   go_enter Tryz.func37, Tryz.ntmps37
   have h0 := hi w (qa _ _) ⟨#[64]⟩
   rw [e0] at h0
   go_wp2_with (go_at_call 27; refine h0.mono ?_)
   intro r w1; first | (intro he b1; subst he) | rintro ⟨rfl, b1⟩
   clear h0
   have h1 := hi w1 b1 ⟨#[103, 114, 97, 99, 101]⟩
   rw [e1] at h1
   go_wp2_with (go_at_call 27; refine h1.mono ?_)
   intro r w2; first | (intro he b2; subst he) | rintro ⟨rfl, b2⟩
   clear h1
   have b2 := b1.trans (b2.mono b1.size)
   clear hi hp
   go_wp2
   go_ret
   exact ⟨rfl, b2⟩
  | false =>
   cases e2 : isS T ⟨#[60]⟩ st with
   | true =>
    go_enter Tryz.func37, Tryz.ntmps37
    have h0 := hi w (qa _ _) ⟨#[64]⟩
    rw [e0] at h0
    go_wp2_with (go_at_call 27; refine h0.mono ?_)
    intro r w1; first | (intro he b1; subst he) | rintro ⟨rfl, b1⟩
    clear h0
    have h1 := hi w1 b1 ⟨#[103, 114, 97, 99, 101]⟩
    rw [e1] at h1
    go_wp2_with (go_at_call 27; refine h1.mono ?_)
    intro r w2; first | (intro he b2; subst he) | rintro ⟨rfl, b2⟩
    clear h1
    have b2 := b1.trans (b2.mono b1.size)
    have h2 := hi w2 b2 ⟨#[60]⟩
    rw [e2] at h2
    go_wp2_with (go_at_call 27; refine h2.mono ?_)
    intro r w3; first | (intro he b3; subst he) | rintro ⟨rfl, b3⟩
    clear h2
    have b3 := b2.trans (b3.mono b2.size)
    clear hi hp
    go_wp2
    go_ret
    exact ⟨rfl, b3⟩
   | false =>
    cases e3 : isS T ⟨#[114]⟩ st with
    | true =>
     go_enter Tryz.func37, Tryz.ntmps37
     have h0 := hi w (qa _ _) ⟨#[64]⟩
     rw [e0] at h0
     go_wp2_with (go_at_call 27; refine h0.mono ?_)
     intro r w1; first | (intro he b1; subst he) | rintro ⟨rfl, b1⟩
     clear h0
     have h1 := hi w1 b1 ⟨#[103, 114, 97, 99, 101]⟩
     rw [e1] at h1
     go_wp2_with (go_at_call 27; refine h1.mono ?_)
     intro r w2; first | (intro he b2; subst he) | rintro ⟨rfl, b2⟩
     clear h1
     have b2 := b1.trans (b2.mono b1.size)
     have h2 := hi w2 b2 ⟨#[60]⟩
     rw [e2] at h2
     go_wp2_with (go_at_call 27; refine h2.mono ?_)
     intro r w3; first | (intro he b3; subst he) | rintro ⟨rfl, b3⟩
     clear h2
     have b3 := b2.trans (b3.mono b2.size)
     have h3 := hi w3 b3 ⟨#[114]⟩
     rw [e3] at h3
     go_wp2_with (go_at_call 27; refine h3.mono ?_)
     intro r w4; first | (intro he b4; subst he) | rintro ⟨rfl, b4⟩
     clear h3
     have b4 := b3.trans (b4.mono b3.size)
     clear hi hp
     go_wp2
     go_ret
     exact ⟨rfl, b4⟩
    | false =>
     cases e4 : isS T ⟨#[82]⟩ st with
     | true =>
      go_enter Tryz.func37, Tryz.ntmps37
      have h0 := hi w (qa _ _) ⟨#[64]⟩
      rw [e0] at h0
      go_wp2_with (go_at_call 27; refine h0.mono ?_)
      intro r w1; first | (intro he b1; subst he) | rintro ⟨rfl, b1⟩
      clear h0
      have h1 := hi w1 b1 ⟨#[103, 114, 97, 99, 101]⟩
      rw [e1] at h1
      go_wp2_with (go_at_call 27; refine h1.mono ?_)
      intro r w2; first | (intro he b2; subst he) | rintro ⟨rfl, b2⟩
      clear h1
      have b2 := b1.trans (b2.mono b1.size)
      have h2 := hi w2 b2 ⟨#[60]⟩
      rw [e2] at h2
      go_wp2_with (go_at_call 27; refine h2.mono ?_)
      intro r w3; first | (intro he b3; subst he) | rintro ⟨rfl, b3⟩
      clear h2
      have b3 := b2.trans (b3.mono b2.size)
      have h3 := hi w3 b3 ⟨#[114]⟩
      rw [e3] at h3
      go_wp2_with (go_at_call 27; refine h3.mono ?_)
      intro r w4; first | (intro he b4; subst he) | rintro ⟨rfl, b4⟩
      clear h3
      have b4 := b3.trans (b4.mono b3.size)
      have h4 := hi w4 b4 ⟨#[82]⟩
      rw [e4] at h4
      go_wp2_with (go_at_call 27; refine h4.mono ?_)
      intro r w5; first | (intro he b5; subst he) | rintro ⟨rfl, b5⟩
      clear h4
      have b5 := b4.trans (b5.mono b4.size)
      clear hi hp
      go_wp2
      go_ret
      exact ⟨rfl, b5⟩
     | false =>
      cases e5 : isS T ⟨#[115]⟩ st with
      | true =>
       go_enter Tryz.func37, Tryz.ntmps37
       have h0 := hi w (qa _ _) ⟨#[64]⟩
       rw [e0] at h0
       go_wp2_with (go_at_call 27; refine h0.mono ?_)
       intro r w1; first | (intro he b1; subst he) | rintro ⟨rfl, b1⟩
       clear h0
       have h1 := hi w1 b1 ⟨#[103, 114, 97, 99, 101]⟩
       rw [e1] at h1
       go_wp2_with (go_at_call 27; refine h1.mono ?_)
       intro r w2; first | (intro he b2; subst he) | rintro ⟨rfl, b2⟩
       clear h1
       have b2 := b1.trans (b2.mono b1.size)
       have h2 := hi w2 b2 ⟨#[60]⟩
       rw [e2] at h2
       go_wp2_with (go_at_call 27; refine h2.mono ?_)
       intro r w3; first | (intro he b3; subst he) | rintro ⟨rfl, b3⟩
       clear h2
       have b3 := b2.trans (b3.mono b2.size)
       have h3 := hi w3 b3 ⟨#[114]⟩
       rw [e3] at h3
       go_wp2_with (go_at_call 27; refine h3.mono ?_)
       intro r w4; first | (intro he b4; subst he) | rintro ⟨rfl, b4⟩
       clear h3
       have b4 := b3.trans (b4.mono b3.size)
       have h4 := hi w4 b4 ⟨#[82]⟩
       rw [e4] at h4
       go_wp2_with (go_at_call 27; refine h4.mono ?_)
       intro r w5; first | (intro he b5; subst he) | rintro ⟨rfl, b5⟩
       clear h4
       have b5 := b4.trans (b5.mono b4.size)
       have h5 := hi w5 b5 ⟨#[115]⟩
       rw [e5] at h5
       go_wp2_with (go_at_call 27; refine h5.mono ?_)
       intro r w6; first | (intro he b6; subst he) | rintro ⟨rfl, b6⟩
       clear h5
       have b6 := b5.trans (b6.mono b5.size)
       clear hi hp
       go_wp2
       go_ret
       exact ⟨rfl, b6⟩
      | false =>
       go_enter Tryz.func37, Tryz.ntmps37
       have h0 := hi w (qa _ _) ⟨#[64]⟩
       rw [e0] at h0
       go_wp2_with (go_at_call 27; refine h0.mono ?_)
       intro r w1; first | (intro he b1; subst he) | rintro ⟨rfl, b1⟩
       clear h0
       have h1 := hi w1 b1 ⟨#[103, 114, 97, 99, 101]⟩
       rw [e1] at h1
       go_wp2_with (go_at_call 27; refine h1.mono ?_)
       intro r w2; first | (intro he b2; subst he) | rintro ⟨rfl, b2⟩
       clear h1
       have b2 := b1.trans (b2.mono b1.size)
       have h2 := hi w2 b2 ⟨#[60]⟩
       rw [e2] at h2
       go_wp2_with (go_at_call 27; refine h2.mono ?_)
       intro r w3; first | (intro he b3; subst he) | rintro ⟨rfl, b3⟩
       clear h2
       have b3 := b2.trans (b3.mono b2.size)
       have h3 := hi w3 b3 ⟨#[114]⟩
       rw [e3] at h3
       go_wp2_with (go_at_call 27; refine h3.mono ?_)
       intro r w4; first | (intro he b4; subst he) | rintro ⟨rfl, b4⟩
       clear h3
       have b4 := b3.trans (b4.mono b3.size)
       have h4 := hi w4 b4 ⟨#[82]⟩
       rw [e4] at h4
       go_wp2_with (go_at_call 27; refine h4.mono ?_)
       intro r w5; first | (intro he b5; subst he) | rintro ⟨rfl, b5⟩
       clear h4
       have b5 := b4.trans (b5.mono b4.size)
       have h5 := hi w5 b5 ⟨#[115]⟩
       rw [e5] at h5
       go_wp2_with (go_at_call 27; refine h5.mono ?_)
       intro r w6; first | (intro he b6; subst he) | rintro ⟨rfl, b6⟩
       clear h5
       have b6 := b5.trans (b6.mono b5.size)
       have h6 := hp w6 b6
       go_wp2_with (go_at_call 79; refine h6.mono ?_)
       intro r w7; first | (intro he b7; subst he) | rintro ⟨rfl, b7⟩
       clear h6
       have b7 := b6.trans (b7.mono b6.size)
       clear hi hp
       go_wp2
       go_ret
       exact ⟨rfl, b7⟩
end
end
set_option maxHeartbeats 16000000
theorem aQ {p : Prop} (h : p) : Shut p := h
section
variable {Y M : Nat} {tv : Value} {toks : List bD} {pos : Nat} {line col e : Int} {free : Bool} {ls ln : Int} {es : Array MapEntry} {clk : Nat} {w : World} {t : bD} {K : Nat}
def gM (K : Nat) (sy : List ByteArray) (w : World) : Prop := w.heap[K]? = some (.cells (sy.map Value.string).toArray 9 (0, 0))
theorem gM.cell {sy : List ByteArray} (h : gM K sy w) {i : Nat} (hi : i < sy.length) : w.cell? ⟨K, i, none⟩ = some (.string sy[i]) := by
 rw [Lib.cell_of_heap h]; simp [hi]
theorem gM.step {sy : List ByteArray} {w' : World} (h : gM K sy w) (b : Below w.heap.size w w') : gM K sy w' := (b.block K (qd.1 h).1).trans h
theorem MK (sy : List ByteArray) (x : ByteArray) (hn : sy.length <= 8) (h : gM K sy w) :
  Calls Tryz.prog 207 #[.slice (some ⟨K, 0, none⟩) sy.length sy.length, .string x] w fun r w' => (∃ i : Int, r = .returned (I i) /\ ((0 <= i /\ x ∈ sy) \/ (i < 0 /\ x ∉ sy))) /\ w' = w := by
 go_enter Tryz.func207, Tryz.ntmps207
 go_wp2
 go_loopg [8] sy.length (fun g v wr => ∃ k : Nat, k <= sy.length /\ g = sy.length - k /\ v = I (k : Nat) /\ wr = w /\ x ∉ sy.take k)
 case atStart => exact ⟨0, qn _, rfl, rfl, rfl, by simp⟩
 case round =>
  obtain ⟨k, hk, hg, rfl, rfl, hno⟩ := hrel
  by_cases hlt : k < sy.length
  ·have hlt' : (k : Int) < (sy.length : Int) := by omega
   have hk0 : (0 : Int) <= (k : Int) := by omega
   have c0 := h.cell hlt
   have m1 : IntKind.i64.wrap ((k : Int) + 1) = (k : Int) + 1 := IntWalk.i64_in _ (by omega)
   have hmem : sy[k] ∈ sy := List.getElem_mem hlt
   have htk : sy.take (k + 1) = sy.take k ++ [sy[k]] := qqy hlt
   generalize sy[k] = y at *
   by_cases hx : x = y
   ·subst hx
    clear hno htk h
    go_wp2
    go_ret
    exact ⟨⟨k, rfl, .inl ⟨by omega, hmem⟩⟩, rfl⟩
   ·have hx' := iY hx
    have hbe : (x.toList == y.toList) = false := by simpa using hx'
    clear hmem h
    go_wp2
    go_roundg (sy.length - (k + 1))
    case measure => omega
    case rel => exact ⟨k + 1, by omega, rfl, by simp, rfl, by rw [htk]; simp [hno, hx]⟩
  ·have : k = sy.length := by omega
   subst this
   rw [List.take_length] at hno
   clear h
   go_wp2
   go_ret
   exact ⟨⟨-1, rfl, .inr ⟨by omega, hno⟩⟩, rfl⟩
theorem ST {x : ByteArray} {sy : List ByteArray} (h : x ∈ sy) : xF x sy = true := List.any_eq_true.2 ⟨x, h, by simp⟩
theorem V0 {x : ByteArray} {sy : List ByteArray} (h : x ∉ sy) : xF x sy = false := by
 cases hb : xF x sy with
 | false => rfl
 | true =>
  obtain ⟨y, hy, he⟩ := List.any_eq_true.1 hb
  exact absurd (of_decide_eq_true he ▸ hy) h
theorem DT (sy : List ByteArray) (x : ByteArray) (hn : sy.length <= 8) (h : gM K sy w) :
  Calls Tryz.prog 178 #[.slice (some ⟨K, 0, none⟩) sy.length sy.length, .string x] w fun r w' => r = .returned (.bool (xF x sy)) /\ w' = w := by
 have hf := MK sy x hn h
 clear h
 go_enter Tryz.func178, Tryz.ntmps178
 go_wp2_with (go_at_call 207; refine hf.mono ?_)
 rintro r w1 ⟨⟨i, rfl, hi⟩, rfl⟩
 rcases hi with ⟨h0, hm⟩ | ⟨h0, hm⟩
 ·go_wp2
  go_ret
  exact ⟨by simp [ST hm], rfl⟩
 ·have h0' : ¬ (0 : Int) <= i := by omega
  clear h0
  go_wp2
  go_ret
  exact ⟨by simp [V0 hm]; omega, rfl⟩
theorem pY (s t : ByteArray) (hs : s.size <= 20000000) (ht : t.size <= 20000000) (w : World) : (Op.stringOp .add s t).run Tryz.prog w = .ok (.string (s ++ t)) w :=
 Go.run_string_add_sum (P := Tryz.prog) (w := w) s t (by omega)
theorem jP.tokAt (h : jP Y M tv toks pos line col 0 free ls ln es clk w) (i : Nat) {t : bD} (ht : toks[i]? = some t) :
  ∃ G cap, tv = .slice (some ⟨G, 0, none⟩) toks.length cap /\ ∀ j u, t.cells[j]? = some u -> w.cell? ⟨G, i * 7 + j, none⟩ = some u := by
 have hr := h.row rfl
 have hp : i < toks.length := (qqd.1 ht).1
 obtain ⟨G, cap, rfl, _, _⟩ := hr.form (by omega)
 refine ⟨G, cap, rfl, fun j u hj => ?_⟩
 have := hr.cells (g := G) rfl (i * 7 + j) u (xM _ _ _ _ _ ht hj)
 have hadd : (⟨G, 0, none⟩ : Addr).add (i * 7 + j) = ⟨G, i * 7 + j, none⟩ := by unfold Addr.add; split <;> simp_all
 rwa [hadd] at this
theorem xX (l : List bD) (s : ByteArray) (t : bD) : nT (l ++ [t]) s = nT l s ++ t.text := by
 induction l generalizing s with
 | nil => rfl
 | cons a r ih => simp only [List.cons_append, nT]; exact ih _
theorem DU (h : jP Y M tv toks pos line col 0 free ls ln es clk w) {t tn : bD} (ht : toks[pos]? = some t) (hpos : pos <= 1000000) (nu : Bool) (sy : List ByteArray) (hsy : sy.length <= 8) (hK : gM K sy w)
  (l : List bD) (hl : ∀ (i : Nat) (x : bD), l[i]? = some x -> toks[pos + 1 + i]? = some x /\ Joins nu sy x = true) (hlen : l.length <= 5000) (htn : toks[pos + 1 + l.length]? = some tn) (hno : Joins nu sy tn = false)
  (hsz : ∀ k, (nT (l.take k) t.text).size <= 20000000) :
  Calls Tryz.prog 144 #[.pointer (some ⟨Y, 0, none⟩), .bool nu, .slice (some ⟨K, 0, none⟩) sy.length sy.length] w fun r w' => r = .returned (.tuple #[.string (nT l t.text), I ((l.length : Int) + 1)]) /\ Below w.heap.size w w' := by
 have hp := qQ h ht
 have hst := fun w' (b : Below w.heap.size w w') => h.step b
 have hKs := fun w' (b : Below w.heap.size w w') => hK.step b
 have hlenT : pos + 1 + l.length < toks.length := (qqd.1 htn).1
 have hfd := QF t.kind t.value t.line t.col t.text t.bytes t.joined
 clear h ht hK
 go_enter Tryz.func144, Tryz.ntmps144
 go_wp2_with (go_at_call 62; refine hp.mono ?_)
 intro r w1; first | (intro he b1; subst he) | rintro ⟨rfl, b1⟩
 go_wp2
 go_loopg [8, 9] (l.length + 1) (fun g v u wr => ∃ k : Nat, k <= l.length /\ g = l.length + 1 - k /\ v = .string (nT (l.take k) t.text) /\ u = I ((k : Int) + 1) /\ Below w.heap.size w wr)
 case atStart => exact ⟨0, qn _, rfl, rfl, rfl, b1⟩
 case round =>
  obtain ⟨k, hk, hg, rfl, rfl, hb⟩ := hrel
  have hS := hst _ hb
  have hK1 := hKs _ hb
  obtain ⟨q, hq⟩ : ∃ q, q = pos + 1 + k := ⟨_, rfl⟩
  obtain ⟨x, hx, hj⟩ : ∃ x, toks[q]? = some x /\ Joins nu sy x = decide (k < l.length) := by
   by_cases hlt : k < l.length
   ·have h1 := hl k _ (qo hlt)
    exact ⟨l[k], by rw [hq]; exact h1.1, by rw [h1.2]; simp [hlt]⟩
   ·have : k = l.length := by omega
    subst this
    exact ⟨tn, by rw [hq]; exact htn, by rw [hno]; simp⟩
  have hw : IntKind.i64.wrap ((pos : Int) + ((k : Int) + 1)) = (q : Int) := by rw [hq, IntWalk.i64_in _ (by omega)]; omega
  have hw2 : IntKind.i64.wrap ((k : Int) + 1 + 1) = (k : Int) + 1 + 1 := IntWalk.i64_in _ (by omega)
  have hlt : (q : Int) < (toks.length : Int) := by omega
  have hp0 : (0 : Int) <= (q : Int) := by omega
  obtain ⟨G, cap, rfl, hc⟩ := hS.tokAt q hx
  have c0 := hS.c0
  have c1 := hS.c1
  have u0 : wr.cell? ⟨G, q * 7, none⟩ = some (I x.kind) := hc 0 _ rfl
  have u1 := hc 1 _ rfl
  have u2 := hc 2 _ rfl
  have u3 := hc 3 _ rfl
  have u4 := hc 4 _ rfl
  have u5 := hc 5 _ rfl
  have u6 := hc 6 _ rfl
  have n0 := qr wr _ c0
  have n1 := qr wr _ u0
  have l0 := ql wr _ c0
  have l1 := ql wr _ u0
  simp only at l0 l1
  obtain ⟨tk, htk⟩ : ∃ s, s = nT (l.take k) t.text := ⟨_, rfl⟩
  have hsz0 := hsz k
  have hsz1 := hsz (k + 1)
  rw [<- htk] at hsz0 |-
  have nxt : k < l.length -> nT (l.take (k + 1)) t.text = tk ++ x.text := fun hlt => by
   have h1 := (hl k _ (qo hlt)).1
   rw [<- hq, hx] at h1
   rw [qqy hlt, xX, <- htk, qqz h1]
  have fin0 : ¬ k < l.length -> tk = nT l t.text := fun hlt => by
   have : k = l.length := by omega
   rw [htk, this, List.take_length]
  have hct := fun W (hW : gM K sy W) => DT sy x.text hsy hW
  have NF := aQ (And.intro nxt (And.intro fin0 (And.intro hsz0 hsz1)))
  have hb2 := hb.alloc hb.size (.cells #[I x.kind, .string x.text, I x.value, .string x.bytes, I x.line, I x.col, .bool x.joined] 59)
  have hK2 := hKs _ (hb2.drew.drew)
  clear hc hx hS htk nxt fin0 hsz0 hsz1 hst hKs hp b1
  have HJ := aQ hj
  have HQ := aQ hq
  clear hj hq
  go_wp2
  go_region_held3 (fun w' => w'.cell? ⟨Y, 0, none⟩ = some (.slice (some ⟨G, 0, none⟩) toks.length cap) /\ w'.cell? ⟨Y, 1, none⟩ = some (I pos) /\
   w'.cell? ⟨G, q * 7, none⟩ = some (I x.kind) /\ w'.cell? ⟨G, q * 7 + 1, none⟩ = some (.string x.text) /\ w'.cell? ⟨G, q * 7 + 2, none⟩ = some (I x.value) /\
   w'.cell? ⟨G, q * 7 + 3, none⟩ = some (.string x.bytes) /\ w'.cell? ⟨G, q * 7 + 4, none⟩ = some (I x.line) /\ w'.cell? ⟨G, q * 7 + 5, none⟩ = some (I x.col) /\ w'.cell? ⟨G, q * 7 + 6, none⟩ = some (.bool x.joined)) (go_keep) (fail)
  go_wp2
  go_region_held3 (fun w' => w'.cell? ⟨Y, 0, none⟩ = some (.slice (some ⟨G, 0, none⟩) toks.length cap) /\ w'.cell? ⟨Y, 1, none⟩ = some (I pos) /\
   w'.cell? ⟨G, q * 7, none⟩ = some (I x.kind) /\ w'.cell? ⟨G, q * 7 + 1, none⟩ = some (.string x.text) /\ w'.cell? ⟨G, q * 7 + 2, none⟩ = some (I x.value) /\
   w'.cell? ⟨G, q * 7 + 3, none⟩ = some (.string x.bytes) /\ w'.cell? ⟨G, q * 7 + 4, none⟩ = some (I x.line) /\ w'.cell? ⟨G, q * 7 + 5, none⟩ = some (I x.col) /\ w'.cell? ⟨G, q * 7 + 6, none⟩ = some (.bool x.joined)) (go_keep) (fail)
  have hjj : x.joined = false \/ x.joined = true := by cases x.joined <;> simp
  rcases hjj with hj0 | hj0
  ·have hn : ¬ k < l.length := fun hlt => by
    have := HJ.out
    rw [Joins, hj0, qu hlt] at this
    cases this
   have hf := NF.out.2.1 hn
   have hkl : k = l.length := by omega
   subst hf
   subst hkl
   rw [hj0] at hb2 |-
   clear hct
   go_wp2
   refine qf (qqg rfl _ _ _) rfl ?_
   exact ⟨by simp, hb2.drew.drew⟩
  ·rw [hj0] at hb2 hK2 |-
   cases nu with
   | false =>
    by_cases hk4 : x.kind = 4
    ·have hk4' : decide (x.kind = 4) = true := qu hk4
     rw [hk4] at hb2 hK2 |-
     cases hm : xF x.text sy with
     | true =>
      have hlt : k < l.length := by
       have := HJ.out
       rw [Joins, hj0, hk4', hm] at this
       simpa using this.symm
      have hnx := NF.out.1 hlt
      have had := fun ww => pY tk x.text NF.out.2.2.1 (by have h1 := NF.out.2.2.2; rw [hnx] at h1; rw [ByteArray.size_append] at h1; omega) ww
      have hc1 := hct _ hK2
      rw [hm] at hc1
      go_wp2_with (go_at_call 178; (with_reducible refine hc1.mono ?_); rintro r w2 ⟨rfl, rfl⟩)
      clear hct
      go_wp2
      go_roundg (l.length + 1 - (k + 1))
      case measure => omega
      case rel => exact ⟨k + 1, by omega, rfl, by rw [hnx], by simp, hb2.drew.drew⟩
     | false =>
      have hn : ¬ k < l.length := fun hlt => by
       have := HJ.out
       rw [Joins, hj0, hk4', hm, qu hlt] at this
       simp at this
      have hf := NF.out.2.1 hn
      have hkl : k = l.length := by omega
      rw [hf]
      have hc1 := hct _ hK2
      rw [hm] at hc1
      go_wp2_with (go_at_call 178; (with_reducible refine hc1.mono ?_); rintro r w2 ⟨rfl, rfl⟩)
      clear hct
      go_wp2
      refine qf (qqg rfl _ _ _) rfl ?_
      exact ⟨by simp, hb2.drew.drew⟩
    ·have hk4' : decide (x.kind = 4) = false := qt hk4; have hk4b : (x.kind == 4) = false := by simp [hk4]
     have hn : ¬ k < l.length := fun hlt => by
      have := HJ.out
      rw [Joins, hj0, hk4', qu hlt] at this
      simp at this
     have hf := NF.out.2.1 hn
     have hkl : k = l.length := by omega
     rw [hf]
     clear hct
     go_wp2
     refine qf (qqg rfl _ _ _) rfl ?_
     exact ⟨by simp [hkl], hb2.drew.drew⟩
   | true =>
    by_cases hk2 : x.kind = 2
    ·have hk2' : decide (x.kind = 2) = true := qu hk2
     rw [hk2] at hb2 hK2 |-
     have hlt : k < l.length := by
      have := HJ.out
      rw [Joins, hj0, hk2'] at this
      simpa using this.symm
     have hnx := NF.out.1 hlt
     have had := fun ww => pY tk x.text NF.out.2.2.1 (by have h1 := NF.out.2.2.2; rw [hnx] at h1; rw [ByteArray.size_append] at h1; omega) ww
     clear hct
     go_wp2
     go_roundg (l.length + 1 - (k + 1))
     case measure => omega
     case rel => exact ⟨k + 1, by omega, rfl, by rw [hnx], by simp, hb2.drew.drew⟩
    ·have hk2' : decide (x.kind = 2) = false := qt hk2; have hk2b : (x.kind == 2) = false := by simp [hk2]
     by_cases hk4 : x.kind = 4
     ·have hk4' : decide (x.kind = 4) = true := qu hk4
      rw [hk4] at hb2 hK2 |-
      cases hm : xF x.text sy with
      | true =>
       have hlt : k < l.length := by
        have := HJ.out
        rw [Joins, hj0, hk2', hk4', hm] at this
        simpa using this.symm
       have hnx := NF.out.1 hlt
       have had := fun ww => pY tk x.text NF.out.2.2.1 (by have h1 := NF.out.2.2.2; rw [hnx] at h1; rw [ByteArray.size_append] at h1; omega) ww
       have hc1 := hct _ hK2
       rw [hm] at hc1
       go_wp2_with (go_at_call 178; (with_reducible refine hc1.mono ?_); rintro r w2 ⟨rfl, rfl⟩)
       clear hct
       go_wp2
       go_roundg (l.length + 1 - (k + 1))
       case measure => omega
       case rel => exact ⟨k + 1, by omega, rfl, by rw [hnx], by simp, hb2.drew.drew⟩
      | false =>
       have hn : ¬ k < l.length := fun hlt => by
        have := HJ.out
        rw [Joins, hj0, hk2', hk4', hm, qu hlt] at this
        simp at this
       have hf := NF.out.2.1 hn
       have hkl : k = l.length := by omega
       rw [hf]
       have hc1 := hct _ hK2
       rw [hm] at hc1
       go_wp2_with (go_at_call 178; (with_reducible refine hc1.mono ?_); rintro r w2 ⟨rfl, rfl⟩)
       clear hct
       go_wp2
       refine qf (qqg rfl _ _ _) rfl ?_
       exact ⟨by simp, hb2.drew.drew⟩
     ·have hk4' : decide (x.kind = 4) = false := qt hk4; have hk4b : (x.kind == 4) = false := by simp [hk4]
      have hn : ¬ k < l.length := fun hlt => by
       have := HJ.out
       rw [Joins, hj0, hk2', hk4', qu hlt] at this
       simp at this
      have hf := NF.out.2.1 hn
      have hkl : k = l.length := by omega
      rw [hf]
      clear hct
      go_wp2
      refine qf (qqg rfl _ _ _) rfl ?_
      exact ⟨by simp [hkl], hb2.drew.drew⟩
end
end Go.Proofs.YtgkhemnmcgicnaaGreatDoor
