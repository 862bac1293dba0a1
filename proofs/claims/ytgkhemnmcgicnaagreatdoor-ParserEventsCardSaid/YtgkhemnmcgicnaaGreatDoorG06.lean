/- Towards the law ParserEvents, true for every text (no condition): one part of the proof. -/
import Derived.Test.YtgkhemnmcgicnaaGreatDoorG01
import Derived.Test.YtgkhemnmcgicnaaGreatDoorG05
namespace Go.Proofs.YtgkhemnmcgicnaaGreatDoor
set_option maxHeartbeats 32000000
set_option maxRecDepth 100000
open Go.RowKit
inductive StrO
 | hit (e : Nat) (bytes : List UInt8)
 | short
 | wrong (p : Nat)
inductive StrR (s : ByteArray) : Nat -> List UInt8 -> StrO -> Prop
 | eof {i : Nat} {acc : List UInt8} (h : ¬ i < s.size) : StrR s i acc .short
 | close {i : Nat} {acc : List UInt8} (h : i < s.size) (hc : s[i].toNat = 34) : StrR s i acc (.hit (i + 1) acc)
 | char {i : Nat} {acc : List UInt8} {o : StrO} (h : i < s.size) (hc : standsB (s[i].toNat : Nat) = true) (r : StrR s (i + 1) (acc ++ [s[i]]) o) : StrR s i acc o
 | esc {i n : Nat} {acc l : List UInt8} {o : StrO} (h : i < s.size) (hc : s[i].toNat = 92) (hE : EscR (s.extract (i + 1) s.size) n false l) (r : StrR s (i + 1 + n) (acc ++ l) o) : StrR s i acc o
 | escShort {i n : Nat} {acc l : List UInt8} (h : i < s.size) (hc : s[i].toNat = 92) (hE : EscR (s.extract (i + 1) s.size) n true l) (he : i + 1 + n = s.size) : StrR s i acc .short
 | escWrong {i n : Nat} {acc l : List UInt8} (h : i < s.size) (hc : s[i].toNat = 92) (hE : EscR (s.extract (i + 1) s.size) n true l) (he : i + 1 + n ≠ s.size) : StrR s i acc (.wrong (i + 1 + n))
 | bad {i : Nat} {acc : List UInt8} (h : i < s.size) (h1 : s[i].toNat ≠ 34) (h2 : s[i].toNat ≠ 92) (h3 : standsB (s[i].toNat : Nat) = false) : StrR s i acc (.wrong i)
theorem str_ex (s : ByteArray) : ∀ (n i : Nat) (acc : List UInt8), s.size - i <= n -> ∃ o, StrR s i acc o
 | 0, i, acc, hn => ⟨_, .eof (by omega)⟩
 | n + 1, i, acc, hn => by
  by_cases hlt : i < s.size
  ·by_cases h34 : s[i].toNat = 34
   ·exact ⟨_, .close hlt h34⟩
   ·by_cases h92 : s[i].toNat = 92
    ·obtain ⟨k, b, l, hE⟩ := esc_ex (s.extract (i + 1) s.size)
     cases b with
     | false =>
      obtain ⟨o, hr⟩ := str_ex s n (i + 1 + k) (acc ++ l) (by omega)
      exact ⟨o, .esc hlt h92 hE hr⟩
     | true =>
      by_cases he : i + 1 + k = s.size
      ·exact ⟨_, .escShort hlt h92 hE he⟩
      ·exact ⟨_, .escWrong hlt h92 hE he⟩
    ·cases h3 : standsB (s[i].toNat : Nat) with
     | true =>
      obtain ⟨o, hr⟩ := str_ex s n (i + 1) (acc ++ [s[i]]) (by omega)
      exact ⟨o, .char hlt h3 hr⟩
     | false => exact ⟨_, .bad hlt h34 h92 h3⟩
  ·exact ⟨_, .eof hlt⟩
theorem StrR.le {s : ByteArray} {i : Nat} {acc : List UInt8} {o : StrO} (h : StrR s i acc o) : ∀ e bytes, o = .hit e bytes -> i < e /\ e <= s.size := by
 induction h with
 | eof _ => intro e b h; cases h
 | close h _ => intro e b h2; injection h2 with h3 _; omega
 | char h _ _ ih => intro e b h2; have := ih e b h2; omega
 | esc h _ _ _ ih => intro e b h2; have := ih e b h2; omega
 | escShort => intro e b h; cases h
 | escWrong => intro e b h; cases h
 | bad => intro e b h; cases h
def TextEnd (B X : Nat) (ks : List (Nat × Obj)) (s : ByteArray) (LN : Value) (ls : List Int) (a : Nat) (lv : Value) (n : Nat) (xs : List Value) (j : Bool) (wz : Int) (w0 : World) (o : StrO) (w : World) : Prop :=
 match o with
 | .hit e bytes => ∃ lv', Scn B X ks s LN (e : Nat) lv' (n + 1) (xs ++ Tok.cells ⟨3, s.extract a e, 0, mk bytes, plL ls a, plC ls a, j && decide (0 < n)⟩) 0 wz w0 w
 | .short => Scn B X ks s LN a lv n xs 4 a w0 w
 | .wrong p => Scn B X ks s LN a lv n xs 6 (p : Nat) w0 w
section
variable {B X : Nat} {ks : List (Nat × Obj)} {s : ByteArray} {lv : Value} {n : Nat} {xs : List Value} {wz : Int} {w0 w : World} {LN : Value} {ls : List Int}
theorem text_any {a : Nat} (h : Scn B X ks s LN a lv n xs 0 wz w0 w) (hL : LinesAt LN ls ks) (gL : Lines ls) (hsz : s.size <= 4000) (hn : n <= 1048576) (ha : a < s.size) (hc : s[a].toNat = 34) {o : StrO} (hR : StrR s (a + 1) [] o) (j : Bool) :
  Calls Tryz.prog 83 #[.pointer (some ⟨X, 0, none⟩), .bool j] w fun r w' => r = .returned (.bool true) /\ TextEnd B X ks s LN ls a lv n xs j wz w0 o w' := by
 have hc' : ((s[a].toNat : Nat) : Int) = 34 := by omega
 have c0 := h.c0
 have c1 := h.c1
 have ha0 : (0 : Int) <= (a : Int) := by omega
 have ha' : (a : Int) < s.size := by omega
 have hw1 : IntKind.i64.wrap ((a : Int) + 1) = ((a + 1 : Nat) : Int) := by rw [show ((a + 1 : Nat) : Int) = (a : Int) + 1 by omega]; exact IntWalk.i64_in _ (by omega)
 obtain ⟨q0, hq0⟩ : ∃ q0, PosIs q0 (a + 1) := ⟨_, rfl⟩
 rw [show (a + 1 : Nat) = q0 from hq0.symm] at hw1 hR
 go_enter Tryz.func83, Tryz.ntmps83
 go_wp2
 go_quiet (fail)
 have hm := h.step (belowDrewN (Below.refl _ _) nq)
 generalize w.drewN nq = W at hm ⊢
 have d0 := hm.c0
 have d1 := hm.c1
 have hXl := hm.lt
 have neX := World.new_ne W _ d0
 clear c0 c1 h hc hc'
 go_wp2
 have hb0 : Lib.IsBuilder 200 5 W.heap.size W.heap.size (Lib.byteCells []) (W.alloc (.cells #[.pointer none, .slice none 0 0] 200)) := Lib.fresh_isBuilder 200 5 W
 have bel0 := (Below.refl W.heap.size W).alloc (Nat.le_refl _) (.cells #[.pointer none, .slice none 0 0] 200)
 generalize hbb : W.heap.size = bb at hb0 bel0 ⊢
 generalize (W.alloc (.cells #[.pointer none, .slice none 0 0] 200)) = V at hb0 bel0 ⊢
 clear d0 d1 neX
 have hqa : a + 1 <= q0 /\ q0 <= s.size := by unfold PosIs at hq0; omega
 clear hq0
 go_loopg [6] (s.size + 1 - q0) (fun g v wr' => ∃ (p : Nat) (acc : List UInt8), g = s.size + 1 - p /\ StrR s p acc o /\ acc.length + (a + 1) <= p /\ p <= s.size /\ v = I p /\ Lib.IsBuilder 200 5 bb bb (Lib.byteCells acc) wr' /\ Below bb W wr')
 case atStart => exact ⟨q0, [], rfl, hR, by simpa using hqa.1, hqa.2, rfl, hb0, bel0⟩
 case round =>
  clear hb0 bel0 hw1 hR hqa
  obtain ⟨p, acc, hg, hR, hp1, hp2, rfl, hI, hb⟩ := hrel
  have hsb : bb <= wr.heap.size := by rw [<- hbb]; exact hbb ▸ hb.size
  have hS := hm.step (hbb.symm ▸ hb)
  have hlk : (Lib.byteCells acc).length = acc.length := Lib.byteCells_length _
  have hstep := fun w' (b : Below bb wr w') => hm.step (hbb.symm ▸ hb.trans b)
  have d0 := hS.c0
  have d1 := hS.c1
  have hp0 : (0 : Int) <= (p : Int) := by omega
  cases hR with
  | eof hlt =>
   have hps' : ¬ (p : Int) < (s.size : Int) := by omega
   have hf := fail_walk hS a 4
   clear hS hI hstep hm
   go_wp2_with (go_at_call 87; refine hf.mono ?_)
   intro e w2; first | (intro he hS2; subst he) | rintro ⟨rfl, hS2⟩
   go_wp2
   go_ret
   exact ⟨rfl, hS2⟩
  | close hlt hcl =>
   have hq : ((s[p].toNat : Nat) : Int) = 34 := by omega
   have hps' : (p : Int) < (s.size : Int) := by omega
   have xl := bld_len bb bb _ wr hI
   rw [hlk] at xl
   have hlen4 : ¬ (4096 : Int) < (acc.length : Int) := by omega
   have xst := Tryz.Builder_String_any bb bb acc wr hI hsb
   have hw2 : IntKind.i64.wrap ((p : Int) + 1) = ((p + 1 : Nat) : Int) := by rw [show ((p + 1 : Nat) : Int) = (p : Int) + 1 by omega]; exact IntWalk.i64_in _ (by omega)
   have hadd := fun w' (hS' : Scn B X ks s LN a lv n xs 0 wz w0 w') => add_walk hS' hL gL (by omega) hn (p + 1) (by omega) (by omega) 3 0 (mk acc) j
   obtain ⟨q1, hq1⟩ : ∃ q1, PosIs q1 (p + 1) := ⟨_, rfl⟩
   rw [show p + 1 = q1 from hq1.symm] at hadd hw2
   clear hI hcl
   go_wp2_with (first
    | (go_at_call 122; refine xl.mono ?_; rintro e w2 ⟨rfl, rfl⟩)
    | (go_at_call 123; refine xst.mono ?_))
   rintro e w3 ⟨rfl, b3⟩
   have hS3 := hstep _ b3
   have hadd3 := hadd _ hS3
   clear hstep hadd xst xl hS hS3
   go_wp2_with (first
    | (go_at_call 86; refine hadd3.mono ?_))
   rintro e w4 ⟨rfl, lv', hS4⟩
   go_wp2
   go_ret
   refine ⟨rfl, lv', ?_⟩
   rw [show p + 1 = q1 from hq1.symm]; exact hS4
  | char hlt hst hr =>
   have hle : (acc ++ [s[p]]).length = acc.length + 1 := by simp
   obtain ⟨c, hcE⟩ : ∃ c, s[p] = c := ⟨_, rfl⟩
   obtain ⟨m, hm0⟩ : ∃ m : Int, m = (c.toNat : Int) := ⟨_, rfl⟩
   have hq : ((s[p].toNat : Nat) : Int) = m := by rw [hcE, hm0]
   have hst' : standsB m = true := by rw [<- hq]; exact hst
   have hps' : (p : Int) < (s.size : Int) := by omega
   have hn34 : ¬ m = 34 := by rintro rfl; revert hst'; decide
   have xs1 := fun w => stands_is m w true hst'
   have xw := writeByte bb bb _ m wr hI (by rw [hlk]; omega) hsb
   have hw2 : IntKind.i64.wrap ((p : Int) + 1) = ((p + 1 : Nat) : Int) := by rw [show ((p + 1 : Nat) : Int) = (p : Int) + 1 by omega]; exact IntWalk.i64_in _ (by omega)
   obtain ⟨q1, hq1⟩ : ∃ q1, PosIs q1 (p + 1) := ⟨_, rfl⟩
   have hcells : Lib.byteCells acc ++ [.int .u8 m] = Lib.byteCells (acc ++ [s[p]]) := by rw [byteCells_snoc, <- hq]
   rw [hcells] at xw
   generalize hacc : acc ++ [s[p]] = acc2 at xw hr hle
   rw [show p + 1 = q1 from hq1.symm] at hw2 hr
   clear hm0 hcE hI hcells hacc hst hst' hstep
   go_wp2_with (first
    | (go_at_call 124; refine (xs1 _).mono ?_; rintro e w2 ⟨rfl, rfl⟩)
    | (go_at_call 125; refine xw.mono ?_))
   rintro e w3 ⟨rfl, hI3, b3⟩
   go_wp2
   go_roundg (s.size + 1 - q1)
   case measure => unfold PosIs at hq1; omega
   case rel => exact ⟨q1, acc2, rfl, hr, by unfold PosIs at hq1; omega, by unfold PosIs at hq1; omega, rfl, .inr hI3, hb.trans b3⟩
  | bad hlt h1 h2 h3 =>
   obtain ⟨m, hm0⟩ : ∃ m : Int, m = ((s[p].toNat : Nat) : Int) := ⟨_, rfl⟩
   have hq : ((s[p].toNat : Nat) : Int) = m := hm0.symm
   have hst' : standsB m = false := by rw [<- hq]; exact h3
   have hps' : (p : Int) < (s.size : Int) := by omega
   have hn34 : ¬ m = 34 := by omega
   have hn92 : ¬ m = 92 := by omega
   have xs1 := fun w => stands_is m w false hst'
   have hf := fail_walk hS p 6
   clear hm0 hI h1 h2 h3 hst' hS hstep
   go_wp2_with (first
    | (go_at_call 124; refine (xs1 _).mono ?_; rintro e w2 ⟨rfl, rfl⟩)
    | (go_at_call 87; refine hf.mono ?_))
   intro e w3; first | (intro he hS3; subst he) | rintro ⟨rfl, hS3⟩
   go_wp2
   go_ret
   exact ⟨rfl, hS3⟩
  | @esc _ k _ l _ hlt h92 hE hr =>
   have hq : ((s[p].toNat : Nat) : Int) = 92 := by omega
   have hnle := hE.n_le
   have hex : (s.extract (p + 1) s.size).size = s.size - (p + 1) := by rw [ByteArray.size_extract]; omega
   have hps' : (p : Int) < (s.size : Int) := by omega
   have hst : standsB 92 = false := by decide
   have xs1 := fun w => stands_is 92 w false hst
   have hw2 : IntKind.i64.wrap ((p : Int) + 1) = ((p + 1 : Nat) : Int) := by rw [show ((p + 1 : Nat) : Int) = (p : Int) + 1 by omega]; exact IntWalk.i64_in _ (by omega)
   obtain ⟨q1, hq1⟩ : ∃ q1, PosIs q1 (p + 1) := ⟨_, rfl⟩
   have xe := esc_any bb bb _ _ wr hI (by rw [hlk]; omega) hsb hE
   have hk3 : p + 1 + k <= s.size := by omega
   have hw4 : IntKind.i64.wrap (1 + (k : Int)) = ((1 + k : Nat) : Int) := by rw [show ((1 + k : Nat) : Int) = 1 + (k : Int) by omega]; exact IntWalk.i64_in _ (by omega)
   have hw5 : IntKind.i64.wrap ((p : Int) + ((1 + k : Nat) : Int)) = ((p + 1 + k : Nat) : Int) := by rw [show ((p + 1 + k : Nat) : Int) = (p : Int) + ((1 + k : Nat) : Int) by omega]; exact IntWalk.i64_in _ (by omega)
   generalize ((1 + k : Nat) : Int) = z at hw4 hw5
   have hq1s : (q1 : Int) <= (s.size : Int) := by unfold PosIs at hq1; omega
   have hq10 : (0 : Int) <= (q1 : Int) := by omega
   have hll : l.length = 1 := (hnle.2.2.2 rfl).2
   have hle : (acc ++ l).length = acc.length + 1 := by rw [List.length_append, hll]
   have hcells : Lib.byteCells acc ++ Lib.byteCells l = Lib.byteCells (acc ++ l) := by simp [Lib.byteCells]
   obtain ⟨q2, hq2⟩ : ∃ q2, PosIs q2 (p + 1 + k) := ⟨p + 1 + k, show p + 1 + k = p + 1 + k from rfl⟩
   have hp2' : acc.length + 1 + (a + 1) <= q2 /\ q2 <= s.size /\ p < q2 := by have := (hnle.2.2.2 rfl).1; unfold PosIs at hq2; omega
   unfold EscEnd at xe
   rw [hcells] at xe
   generalize acc ++ l = acc2 at xe hr hle
   rw [show p + 1 + k = q2 from hq2.symm] at hw5 hr
   rw [show p + 1 = q1 from hq1.symm] at hw2 xe
   clear hI hcells hE hnle hex hll hstep hq2 h92
   go_wp2_with (first
    | (go_at_call 124; refine (xs1 _).mono ?_; rintro e w2 ⟨rfl, rfl⟩)
    | (go_at_call 126; refine xe.mono ?_))
   rintro e w3 ⟨rfl, hI3, b3⟩
   go_wp2
   go_roundg (s.size + 1 - q2)
   case measure => omega
   case rel => exact ⟨q2, acc2, rfl, hr, by omega, hp2'.2.1, rfl, hI3, hb.trans b3⟩
  | @escShort _ k _ l hlt h92 hE he =>
   have hq : ((s[p].toNat : Nat) : Int) = 92 := by omega
   have hps' : (p : Int) < (s.size : Int) := by omega
   have hst : standsB 92 = false := by decide
   have xs1 := fun w => stands_is 92 w false hst
   have hw2 : IntKind.i64.wrap ((p : Int) + 1) = ((p + 1 : Nat) : Int) := by rw [show ((p + 1 : Nat) : Int) = (p : Int) + 1 by omega]; exact IntWalk.i64_in _ (by omega)
   obtain ⟨q1, hq1⟩ : ∃ q1, PosIs q1 (p + 1) := ⟨_, rfl⟩
   have xe := esc_any bb bb _ _ wr hI (by rw [hlk]; omega) hsb hE
   have hq1s : (q1 : Int) <= (s.size : Int) := by unfold PosIs at hq1; omega
   have hq10 : (0 : Int) <= (q1 : Int) := by omega
   have hw3 : IntKind.i64.wrap ((q1 : Int) + (k : Int)) = (s.size : Int) := by
    unfold PosIs at hq1
    rw [show (q1 : Int) + (k : Int) = (s.size : Int) by omega]; exact IntWalk.i64_in _ (by omega)
   rw [show p + 1 = q1 from hq1.symm] at hw2 xe
   unfold EscEnd at xe
   clear hI hE hS he hq1
   go_wp2_with (first
    | (go_at_call 124; refine (xs1 _).mono ?_; rintro e w2 ⟨rfl, rfl⟩)
    | (go_at_call 126; refine xe.mono ?_))
   rintro e w3 ⟨rfl, hI3, b3⟩
   have hS3 := hstep _ b3
   have g0 := hS3.c0
   have g1 := hS3.c1
   have hf := fail_walk hS3 a 4
   clear hstep hS3 hI3
   go_wp2_with (first
    | (go_at_call 87; refine hf.mono ?_))
   intro e w4; first | (intro he hS4; subst he) | rintro ⟨rfl, hS4⟩
   go_wp2
   go_ret
   exact ⟨rfl, hS4⟩
  | @escWrong _ k _ l hlt h92 hE he =>
   have hq : ((s[p].toNat : Nat) : Int) = 92 := by omega
   have hps' : (p : Int) < (s.size : Int) := by omega
   have hst : standsB 92 = false := by decide
   have xs1 := fun w => stands_is 92 w false hst
   have hw2 : IntKind.i64.wrap ((p : Int) + 1) = ((p + 1 : Nat) : Int) := by rw [show ((p + 1 : Nat) : Int) = (p : Int) + 1 by omega]; exact IntWalk.i64_in _ (by omega)
   obtain ⟨q1, hq1⟩ : ∃ q1, PosIs q1 (p + 1) := ⟨_, rfl⟩
   have xe := esc_any bb bb _ _ wr hI (by rw [hlk]; omega) hsb hE
   have hnle := hE.n_le
   have hq1s : (q1 : Int) <= (s.size : Int) := by unfold PosIs at hq1; omega
   have hq10 : (0 : Int) <= (q1 : Int) := by omega
   obtain ⟨q2, hq2⟩ : ∃ q2, PosIs q2 (p + 1 + k) := ⟨p + 1 + k, show p + 1 + k = p + 1 + k from rfl⟩
   have hw3 : IntKind.i64.wrap ((q1 : Int) + (k : Int)) = (q2 : Int) := by
    unfold PosIs at hq1 hq2
    rw [show (q1 : Int) + (k : Int) = (q2 : Int) by omega]; exact IntWalk.i64_in _ (by omega)
   have hne : ¬ (q2 : Int) = (s.size : Int) := by unfold PosIs at hq2; omega
   rw [show p + 1 = q1 from hq1.symm] at hw2 xe
   unfold EscEnd at xe
   clear hI hE hS he hq1 hnle
   go_wp2_with (first
    | (go_at_call 124; refine (xs1 _).mono ?_; rintro e w2 ⟨rfl, rfl⟩)
    | (go_at_call 126; refine xe.mono ?_))
   rintro e w3 ⟨rfl, hI3, b3⟩
   have hS3 := hstep _ b3
   have g0 := hS3.c0
   have g1 := hS3.c1
   have hf := fail_walk hS3 q2 6
   clear hstep hS3 hI3
   go_wp2_with (first
    | (go_at_call 87; refine hf.mono ?_))
   intro e w4; first | (intro he hS4; subst he) | rintro ⟨rfl, hS4⟩
   go_wp2
   go_ret
   refine ⟨rfl, ?_⟩
   rw [show p + 1 + k = q2 from hq2.symm]
   exact hS4
end
def notNL (c : Nat) : Bool := decide (c ≠ 10)
theorem notNL_walk (c : Int) (w : World) : Calls Tryz.prog 128 #[.int .u8 c] w fun e w' => e = .returned (.bool (decide (c ≠ 10))) /\ w' = w := by
 go_enter Tryz.func128, Tryz.ntmps128
 by_cases h1 : c = 10
 all_goals (try subst h1)
 all_goals go_wp2
 all_goals go_ret
 all_goals simp_all
theorem notNL_is (c : Nat) (w : World) {b : Bool} (h : notNL c = b) : Calls Tryz.prog 128 #[.int .u8 c] w fun e w' => e = .returned (.bool b) /\ w' = w := by
 refine (notNL_walk c w).mono ?_
 rintro e w' ⟨rfl, rfl⟩
 refine ⟨?_, rfl⟩
 rw [<- h]; unfold notNL
 congr 2
 exact decide_eq_decide.2 (by omega)
theorem run_notNL (X : Nat) (s : ByteArray) (a b : Nat) (w : World) (c0 : w.cell? ⟨X, 0, none⟩ = some (.string s)) (hsz : s.size <= 1048576) (hu : Upto notNL s a b) :
  Calls Tryz.prog 118 #[.pointer (some ⟨X, 0, none⟩), I a, .func (.func 128) #[] #[]] w fun e w' => e = .returned (I b) /\ w' = w := by
 obtain ⟨hab, hbs, hin, hout⟩ := hu
 go_enter Tryz.func118, Tryz.ntmps118
 go_wp2
 go_loop [1] (fun v => ∃ k : Nat, a <= k /\ k <= b /\ v = I k) (fun v => b - (intOf v).toNat)
 case atStart => exact ⟨a, Nat.le_refl _, hab, rfl⟩
 case round =>
  obtain ⟨k, hk1, hk2, rfl⟩ := hrel
  by_cases hlt : k < s.size
  ·by_cases hkb : k < b
   ·have hd := hin k hlt hk1 hkb
    go_wp2_with (go_at_call 128; refine (notNL_is _ _ hd).mono ?_; rintro e w2 ⟨rfl, rfl⟩)
    go_round
    case rel => exact ⟨k + 1, by omega, hkb, by go_num⟩
    case measure => simp [intOf]; omega
   ·obtain rfl : k = b := by omega
    have hd := hout hlt
    go_wp2_with (go_at_call 128; refine (notNL_is _ _ hd).mono ?_; rintro e w2 ⟨rfl, rfl⟩)
    go_ret
    exact ⟨rfl, rfl⟩
  ·obtain rfl : k = b := by omega
   go_wp2
   go_ret
   exact ⟨rfl, rfl⟩
inductive Skip (s : ByteArray) : Nat -> Nat -> Prop
 | stop {a : Nat} (ha : a <= s.size) (h : ∀ h : a < s.size, isBlank s[a].toNat = false /\ s[a].toNat ≠ 37) : Skip s a a
 | blank {a b : Nat} (ha : a < s.size) (h : isBlank s[a].toNat = true) (r : Skip s (a + 1) b) : Skip s a b
 | comment {a c b : Nat} (ha : a < s.size) (h : s[a].toNat = 37) (hc : a < c) (u : Upto notNL s a c) (r : Skip s c b) : Skip s a b
theorem Skip.le {s : ByteArray} {a b : Nat} (h : Skip s a b) : a <= b /\ b <= s.size := by
 induction h with
 | stop ha _ => exact ⟨Nat.le_refl _, ha⟩
 | blank _ _ _ ih => omega
 | comment _ _ hc _ _ ih => omega
theorem upto_ex (p : Nat -> Bool) (s : ByteArray) : ∀ (n a : Nat), s.size - a = n -> a <= s.size -> ∃ b, Upto p s a b
 | 0, a, hn, ha => ⟨a, Nat.le_refl _, ha, fun k h h1 h2 => by omega, fun h => by omega⟩
 | n + 1, a, hn, ha => by
  have hlt : a < s.size := by omega
  cases hp : p s[a].toNat with
  | false => exact ⟨a, Nat.le_refl _, ha, fun k h h1 h2 => by omega, fun _ => hp⟩
  | true =>
   obtain ⟨b, h1, h2, h3, h4⟩ := upto_ex p s n (a + 1) (by omega) (by omega)
   refine ⟨b, by omega, h2, fun k h hk1 hk2 => ?_, h4⟩
   by_cases he : k = a
   ·subst he; exact hp
   ·exact h3 k h (by omega) hk2
theorem upto_lt {p : Nat -> Bool} {s : ByteArray} {a b : Nat} (u : Upto p s a b) (ha : a < s.size) (h : p s[a].toNat = true) : a < b := by
 have h1 := u.ab
 rcases Nat.lt_or_ge a b with h2 | h2
 ·exact h2
 ·obtain rfl : a = b := by omega
  rw [u.out ha] at h; cases h
theorem skip_ex (s : ByteArray) : ∀ (n a : Nat), s.size - a <= n -> a <= s.size -> ∃ b, Skip s a b
 | 0, a, hn, ha => ⟨a, .stop ha fun h => by omega⟩
 | n + 1, a, hn, ha => by
  by_cases hlt : a < s.size
  ·cases hb : isBlank s[a].toNat with
   | true =>
    obtain ⟨b, hr⟩ := skip_ex s n (a + 1) (by omega) (by omega)
    exact ⟨b, .blank hlt hb hr⟩
   | false =>
    by_cases h37 : s[a].toNat = 37
    ·obtain ⟨c, hu⟩ := upto_ex notNL s _ a rfl ha
     have hac := upto_lt hu hlt (by rw [h37]; decide)
     obtain ⟨b, hr⟩ := skip_ex s n c (by omega) hu.bs
     exact ⟨b, .comment hlt h37 hac hu hr⟩
    ·exact ⟨a, .stop ha fun _ => ⟨hb, h37⟩⟩
  ·exact ⟨a, .stop ha fun h => absurd h hlt⟩
section
variable {B X : Nat} {ks : List (Nat × Obj)} {s : ByteArray} {lines : Value} {lv : Value} {n : Nat} {xs : List Value} {wr : Int} {w0 w : World}
theorem skip_any {a : Nat} (h : Scn B X ks s lines a lv n xs 0 wr w0 w) (hsz : s.size <= 1048576) (b : Nat) (hu : Skip s a b) :
  Calls Tryz.prog 85 #[.pointer (some ⟨X, 0, none⟩)] w fun e w' => e = .returned (.bool (decide (a < b))) /\ Scn B X ks s lines b lv n xs 0 wr w0 w' := by
 have c1 := h.c1
 have hab := hu.le.1
 go_enter Tryz.func85, Tryz.ntmps85
 go_wp2
 go_step3
 go_wp2
 go_step3
 go_wp2
 go_loopg [4] (b - a) (fun g v wr' => ∃ k : Nat, Skip s k b /\ b - k <= g /\ Scn B X ks s lines k lv n xs 0 wr w0 wr')
 case atStart => exact ⟨a, hu, Nat.le_refl _, h⟩
 case round =>
  clear h c1 hu
  obtain ⟨k, hu, hg, hS⟩ := hrel
  have d0 := hS.c0
  have d1 := hS.c1
  have f1 := hS.fz 1
  have e1 : ((k + 1 : Nat) : Int) = (k : Int) + 1 := by omega
  have hle := hu.le
  cases hu with
  | blank hlt hd hr =>
   have hne := not_percent hd
   have hlt' : (k : Int) < s.size := by omega
   have hle2 := hr.le
   go_wp2
   go_quiet (fail)
   go_wp2
   go_quiet (fail)
   go_wp2_with (go_at_call 129; refine (blank_is _ _ hd).mono ?_; rintro e w2 ⟨rfl, rfl⟩)
   go_roundg (b - (k + 1))
   case measure => omega
   case rel =>
    refine ⟨k + 1, hr, Nat.le_refl _, ?_⟩
    rw [e1]
    exact (hS.step (belowDrewN (Below.refl _ _) _)).at _
  | @comment _ c _ hlt h37 hkc hun hr =>
   have h37' : ((s[k].toNat : Nat) : Int) = 37 := by omega
   have hlt' : (k : Int) < s.size := by omega
   have hle2 := hr.le
   clear e1
   go_wp2
   go_quiet (fail)
   go_wp2
   go_quiet (fail)
   have hrn := fun w' (q0 : w'.cell? ⟨X, 0, none⟩ = some (.string s)) => run_notNL X s k c w' q0 hsz hun
   go_wp2_with (go_at_call 118; refine (hrn _ (by assumption)).mono ?_; rintro e w2 ⟨rfl, rfl⟩)
   go_roundg (b - c)
   case measure => omega
   case rel => exact ⟨c, hr, Nat.le_refl _, (hS.step (belowDrewN (Below.refl _ _) _)).at _⟩
  | stop hle' hst =>
   clear e1
   by_cases hlt : b < s.size
   ·obtain ⟨hd, hne0⟩ := hst hlt
    have hne : ¬ ((s[b].toNat : Nat) : Int) = 37 := by omega
    have hlt' : (b : Int) < s.size := by omega
    go_wp2
    go_quiet (fail)
    go_wp2
    go_quiet (fail)
    go_wp2_with (go_at_call 129; refine (blank_is _ _ hd).mono ?_; rintro e w2 ⟨rfl, rfl⟩)
    rw [Exit.noGoto_ret]
    go_ret
    refine ⟨?_, hS.step (belowDrewN (Below.refl _ _) _)⟩
    first | rfl | simp
   ·have hlt' : ¬ (b : Int) < s.size := by omega
    go_wp2
    go_quiet (fail)
    go_wp2
    rw [Exit.noGoto_ret]
    go_ret
    refine ⟨?_, hS.step (belowDrewN (Below.refl _ _) _)⟩
    first | rfl | simp
end
end Go.Proofs.YtgkhemnmcgicnaaGreatDoor
