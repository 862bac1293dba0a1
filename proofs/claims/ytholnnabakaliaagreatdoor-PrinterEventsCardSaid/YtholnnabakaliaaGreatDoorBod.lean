/-
  A part of the proof that the law PrinterEvents (chapter 20) returns true for every event: walks of the program's functions, and runs of them in the kernel by the own evaluator.
-/
import Derived.Test.YtholnnabakaliaaGreatDoorShf
import Derived.Test.YtholnnabakaliaaGreatDoorCkf
namespace Go.Proofs.YtholnnabakaliaaGreatDoor
open Go.RowKit

def joinL : List (List UInt8) → List UInt8
  | [] => []
  | x :: r => x ++ r.flatMap fun y => 32 :: y
def showL (s : Int) : List UInt8 := if s = 1 then [33] else if s = 2 then [63] else []
def headL (h : HeadV) : List UInt8 := pitchL h.p ++ (if h.tied = true then [126] else []) ++ showL h.sh
def headsTextL (l : List HeadV) : List UInt8 := if l.length = 1 then joinL (l.map headL) else [60] ++ joinL (l.map headL) ++ [62]
def bodyL (x : EvV) : List UInt8 :=
  if x.kind = 3 then [82] else if x.kind = 2 then [114, 58] ++ valueL x.lg x.dt else if x.kind = 4 then [115, 58] ++ valueL x.lg x.dt
  else headsTextL x.heads ++ [58] ++ valueL x.lg x.dt

theorem mkB_append (l m : List UInt8) : mkB l ++ mkB m = mkB (l ++ m) := by
  apply ByteArray.ext
  simp [mkB]
theorem add_mk (l m : List UInt8) (hl : l.length ≤ 1000000) (hm : m.length ≤ 1000000) (w : World) : (Op.stringOp .add (mkB l) (mkB m)).run Tryz.prog w = .ok (.string (mkB (l ++ m))) w := by
  rw [Go.run_string_add_sum (P := Tryz.prog) (w := w) (mkB l) (mkB m) (by rw [mkB_size, mkB_size]; omega), mkB_append]

theorem lib_join (l : List (List UInt8)) : Lib.join (l.map fun y => (mkB y).data.toList) [32] = joinL l := by
  cases l with
  | nil => rfl
  | cons x r =>
    simp only [List.map_cons, Lib.join_cons, joinL]
    congr 1
    induction r with
    | nil => rfl
    | cons y r ih =>
      unfold Lib.joinTail at ih ⊢
      rw [List.map_cons, List.map_cons, List.flatten_cons, ih, List.flatMap_cons]
      rfl
theorem joinL_len {l : List (List UInt8)} {m : Nat} (h : ∀ y ∈ l, y.length ≤ m) : (joinL l).length ≤ l.length * (m + 1) := by
  cases l with
  | nil => simp [joinL]
  | cons x r =>
    have key : ∀ r : List (List UInt8), (∀ y ∈ r, y.length ≤ m) → (r.flatMap fun y => 32 :: y).length ≤ r.length * (m + 1) := by
      intro r
      induction r with
      | nil => intro _; simp
      | cons y r ih =>
        intro hr
        have h1 := hr y (by simp)
        have h2 := ih fun z hz => hr z (by simp [hz])
        simp only [List.flatMap_cons, List.length_append, List.length_cons, Nat.add_mul]
        omega
    have h1 := h x (by simp)
    have h2 := key r fun z hz => h z (by simp [hz])
    simp only [joinL, List.length_append, List.length_cons, Nat.add_mul]
    omega

/-- strings.Join with a space, of an own row. -/
theorem join_own {B : Nat} {v : Value} {l : List (List UInt8)} {w : World} (h : w.ownsRow B 9 1 v l.length ((l.map mkB).map Value.string)) (hn : 0 < l.length) (hsz : l.length ≤ 100) (hlen : ∀ y ∈ l, y.length ≤ 100000) :
    Calls Tryz.prog 36 #[v, .string ⟨#[32]⟩] w fun e w' => e = .returned (.string (mkB (joinL l))) ∧ Below w.heap.size w w' := by
  obtain ⟨g, cap, rfl, hcap⟩ : ∃ g cap, v = .slice (some ⟨g, 0, none⟩) l.length cap ∧ l.length ≤ cap := by
    rcases h.2 with ⟨_, h0⟩ | ⟨g, cap, cur, hv, _, _, hc, _⟩
    · omega
    · exact ⟨g, cap, hv, hc⟩
  have hc : ∀ (j : Nat) x, (l.map mkB)[j]? = some x → w.cell? ⟨g, 0 + j, none⟩ = some (.string x) := fun j x hx => by
    have := h.cells (g := g) rfl j (.string x) (by rw [List.getElem?_map, hx]; rfl)
    have hadd : (⟨g, 0, none⟩ : Addr).add j = ⟨g, 0 + j, none⟩ := by unfold Addr.add; split <;> simp_all
    rwa [hadd] at this
  have hb := joinL_len hlen
  have hj : Lib.join ((l.map mkB).map (·.data.toList)) (⟨#[32]⟩ : ByteArray).data.toList = joinL l := by rw [List.map_map]; exact lib_join l
  have := Tryz.strings_Join g 0 cap (l.map mkB) ⟨#[32]⟩ w hc (h.lt g rfl).2 (by rw [List.length_map]; omega) (by rw [List.length_map]; exact hcap) (by rw [hj]; have := Nat.mul_le_mul_right 100001 hsz; omega)
  rw [hj, List.length_map] at this
  exact this

/-- A head that event.Check takes. -/
def HeadOk (h : HeadV) : Prop := pitchE h.p = 0 ∧ (h.sh = 0 ∨ h.sh = 1 ∨ h.sh = 2)
theorem pitchL_len {p : PitchV} (_h : pitchE p = 0) : (pitchL p).length ≤ 5 := by
  have h1 : (signL p.al).length ≤ 2 := by unfold signL; (repeat' split) <;> simp
  have h2 : (octL p.oc).length ≤ 2 := by unfold octL; split <;> simp
  simp only [pitchL, List.length_cons, List.length_append]
  omega
theorem headL_len {h : HeadV} (hh : HeadOk h) : (headL h).length ≤ 7 := by
  have h1 := pitchL_len hh.1
  have h2 : (showL h.sh).length ≤ 1 := by unfold showL; (repeat' split) <;> simp
  have h3 : (if h.tied = true then [126] else [] : List UInt8).length ≤ 1 := by split <;> simp
  simp only [headL, List.length_append]
  omega
theorem valueL_len {lg dt : Int} (h : valueE lg dt = 0) : (valueL lg dt).length ≤ 6 := by
  rcases vals_mem h with hm | hm
  · exact of_decide_eq_true (List.all_eq_true.1 (show vals6.all (fun v => decide ((valueL v.1 v.2).length ≤ 6)) = true by decide) _ hm)
  · exact of_decide_eq_true (List.all_eq_true.1 (show vals8.all (fun v => decide ((valueL v.1 v.2).length ≤ 6)) = true by decide) _ hm)

set_option maxHeartbeats 8000000 in
set_option maxRecDepth 100000 in
theorem body_walk (site num kd lg dt ar orn dy st be : Int) (ho go lo : Option Addr) (hn hc gn gc ln lc : Nat) (heads : List HeadV) (graces : List GraceV) (lyr : List SyllV) {b : Nat} (w : World) (T : Tabs b w)
    (hH : Els w 5 (.slice ho hn hc) (heads.map HeadV.cells)) (hv : valueE lg dt = 0) (hk : kd = 1 ∨ kd = 2 ∨ kd = 3 ∨ kd = 4) (hh : kd = 1 → 0 < heads.length) (h10 : heads.length ≤ 10) (hok : ∀ h ∈ heads, HeadOk h) :
    Calls Tryz.prog 33 #[.agg #[.int .i64 site, .int .i64 num, .int .i64 kd, .int .i64 lg, .int .i64 dt, .slice ho hn hc, .slice go gn gc, .int .i64 ar, .int .i64 orn, .int .i64 dy, .slice lo ln lc, .int .i64 st, .int .i64 be]] w fun e w' => e = .returned (.string (mkB (bodyL ⟨site, num, kd, lg, dt, heads, graces, ar, orn, dy, lyr, st, be⟩))) ∧ Below w.heap.size w w' := by
  have b0 := (Below.refl w.heap.size w).alloc (Nat.le_refl _) (.cells #[.int .i64 site, .int .i64 num, .int .i64 kd, .int .i64 lg, .int .i64 dt, .slice ho hn hc, .slice go gn gc, .int .i64 ar, .int .i64 orn, .int .i64 dy, .slice lo ln lc, .int .i64 st, .int .i64 be] 30)
  have hB0 := heap_alloc_new w (.cells #[.int .i64 site, .int .i64 num, .int .i64 kd, .int .i64 lg, .int .i64 dt, .slice ho hn hc, .slice go gn gc, .int .i64 ar, .int .i64 orn, .int .i64 dy, .slice lo ln lc, .int .i64 st, .int .i64 be] 30)
  have hvt := fun W (bW : Below w.heap.size w W) => value_text hv W (T.step bW)
  have hvl := valueL_len hv
  have hel := hH.isM
  rcases hk with rfl | rfl | rfl | rfl
  · have e0 : bodyL ⟨site, num, 1, lg, dt, heads, graces, ar, orn, dy, lyr, st, be⟩ = headsTextL heads ++ [58] ++ valueL lg dt := by simp [bodyL]
    rw [e0]
    have hpos := hh rfl
    have eh : hn = heads.length := by have := hH.len; simpa using this
    subst eh
    obtain ⟨z, hz⟩ : ∃ z, z = mkB (valueL lg dt) := ⟨_, rfl⟩
    rw [← hz] at hvt
    have Hz := shut hz
    obtain ⟨zf, hzf⟩ : ∃ z, z = mkB (headsTextL heads ++ [58] ++ valueL lg dt) := ⟨_, rfl⟩
    rw [← hzf]
    have Hf := shut hzf
    obtain ⟨i0, hi0, hz0, hz1, hz2⟩ := info_parts Tryz.infoStr
    clear hz hzf e0 hh hel hvl
    go_enter Tryz.func33, Tryz.ntmps33
    go_wp2_with (go_at_call 61; refine (hvt _ b0).mono ?_)
    intro e w1; first | (intro he b1; subst he) | rintro ⟨rfl, b1⟩
    have hB1 := (b1.block w.heap.size (by simp)).trans hB0
    have bb1 := b0.trans (b1.mono (by first | omega | simp))
    obtain ⟨k0, k1, k2, k3, k4, k5, k6, k7, k8, k9, k10, k11, k12⟩ := box13 hB1
    clear hvt hB0 b0 b1
    go_wp2
    go_loopg [5, 31] heads.length (fun g s5 s31 wr => ∃ k : Nat, k ≤ heads.length ∧ g = heads.length - k ∧ s31 = .int .i64 (k : Nat) ∧ Below w1.heap.size w1 wr ∧ wr.ownsRow w1.heap.size 9 1 s5 k ((((heads.map headL).take k).map mkB).map Value.string))
    case atStart => exact ⟨0, Nat.zero_le _, rfl, rfl, Below.refl _ _, World.ownsRow_nil _ _ _ _⟩
    case round =>
      obtain ⟨k, hk, hg, rfl, hb, hown⟩ := hrel
      have bbr := bb1.trans (hb.mono bb1.size)
      by_cases hlt : k < heads.length
      · have hlt' : (k : Int) < (heads.length : Int) := by omega
        have hk0 : (0 : Int) ≤ (k : Int) := by omega
        obtain ⟨g, oo, rfl, hcl⟩ := (hH.step bbr).atM hlt
        have m1 : IntKind.i64.wrap ((k : Int) + 1) = (k : Int) + 1 := IntWalk.i64_in _ (by omega)
        have hs : (heads.map headL).take (k + 1) = (heads.map headL).take k ++ [headL heads[k]] := by
          rw [List.take_succ_eq_append_getElem (by simpa using hlt)]; simp
        have hho := hok heads[k] (List.getElem_mem hlt)
        generalize heads[k] = x at hcl hs hho
        obtain ⟨⟨x0, x1, x2⟩, x3, x4⟩ := x
        obtain ⟨hp, hsh⟩ := hho
        have c0 : wr.cell? ⟨g, oo + k * 5, none⟩ = some (.int .i64 x0) := hcl 0 _ rfl
        have c1 : wr.cell? ⟨g, oo + k * 5 + 1, none⟩ = some (.int .i64 x1) := hcl 1 _ rfl
        have c2 : wr.cell? ⟨g, oo + k * 5 + 2, none⟩ = some (.int .i64 x2) := hcl 2 _ rfl
        have c3 : wr.cell? ⟨g, oo + k * 5 + 3, none⟩ = some (.bool x3) := hcl 3 _ rfl
        have c4 : wr.cell? ⟨g, oo + k * 5 + 4, none⟩ = some (.int .i64 x4) := hcl 4 _ rfl
        have hnm := fun W (bW : Below w.heap.size w W) => pitch_name hp W (T.step bW)
        have bbr2 := bbr.alloc bbr.size (.cells #[.int .i64 x0, .int .i64 x1, .int .i64 x2, .bool x3, .int .i64 x4] 46)
        have hbr2 := hb.alloc hb.size (.cells #[.int .i64 x0, .int .i64 x1, .int .i64 x2, .bool x3, .int .i64 x4] 46)
        have hown2 := hown.alloc (.cells #[.int .i64 x0, .int .i64 x1, .int .i64 x2, .bool x3, .int .i64 x4] 46)
        have hpl := pitchL_len hp
        obtain ⟨s0, hs0⟩ : ∃ s, s = mkB (pitchL ⟨x0, x1, x2⟩) := ⟨_, rfl⟩
        simp only [headL] at hs
        generalize pitchL ⟨x0, x1, x2⟩ = pl at hnm hs hpl hs0
        rw [← hs0] at hnm
        have HS0 := shut hs0
        clear hcl hp hs0
        go_wp2_with (go_at_call 25; refine (hnm _ bbr2).mono ?_)
        intro e w2; first | (intro he b2; subst he) | rintro ⟨rfl, b2⟩
        have q3 : w2.cell? ⟨wr.heap.size, 3, none⟩ = some (.bool x3) := (b2.cell (by simp)).trans (by simp)
        have q4 : w2.cell? ⟨wr.heap.size, 4, none⟩ = some (.int .i64 x4) := (b2.cell (by simp)).trans (by simp)
        have hb2 := hbr2.trans (b2.mono (by have := hb.size; first | omega | (simp; omega)))
        have hown3 := own_step hown2 fun j hj => b2.block j (by have := (hown2.lt j hj).2; simpa using this)
        obtain ⟨ao, cp, rfl⟩ := own_is hown3
        have hge : ∀ j, (Value.slice ao k cp).ownBlock = some j → w1.heap.size ≤ j := fun j hj => (hown3.lt j hj).1
        have hsz2 := hb2.size
        clear hnm b2 hown hown2 bbr2 hbr2 c0 c1 c2 c3 c4
        have fin : ∀ (W : World) (x : ByteArray) (wc : Nat) (gg : Nat), x = mkB (pl ++ (if x3 = true then [126] else []) ++ showL x4) → ∀ w3 : World, w3.ownsRow w1.heap.size 9 1 (.slice (some ⟨gg, 0, none⟩) (k + 1) wc) (k + 1) (((((heads.map headL).take k).map mkB).map Value.string) ++ [.string x]) →
            w3.ownsRow w1.heap.size 9 1 (.slice (some ⟨gg, 0, none⟩) (k + 1) wc) (k + 1) ((((heads.map headL).take (k + 1)).map mkB).map Value.string) := by
          intro W x wc gg hx w3 h3
          rw [hs, List.map_append, List.map_append]
          rw [hx] at h3
          exact h3
        have HF := shut fin
        clear fin hs
        have hs0 := HS0.out
        have aT0 := fun ww => add_mk pl [126] (by omega) (by simp) ww
        have aB0 := fun ww => add_mk pl [33] (by omega) (by simp) ww
        have aQ0 := fun ww => add_mk pl [63] (by omega) (by simp) ww
        have aB1 := fun ww => add_mk (pl ++ [126]) [33] (by simp; omega) (by simp) ww
        have aQ1 := fun ww => add_mk (pl ++ [126]) [63] (by simp; omega) (by simp) ww
        obtain ⟨sT, hT⟩ : ∃ s, s = mkB (pl ++ [126]) := ⟨_, rfl⟩
        obtain ⟨sB, hB⟩ : ∃ s, s = mkB (pl ++ [33]) := ⟨_, rfl⟩
        obtain ⟨sQ, hQ⟩ : ∃ s, s = mkB (pl ++ [63]) := ⟨_, rfl⟩
        obtain ⟨sTB, hTB⟩ : ∃ s, s = mkB (pl ++ [126] ++ [33]) := ⟨_, rfl⟩
        obtain ⟨sTQ, hTQ⟩ : ∃ s, s = mkB (pl ++ [126] ++ [63]) := ⟨_, rfl⟩
        rw [← hs0, ← hT] at aT0
        rw [← hs0, ← hB] at aB0
        rw [← hs0, ← hQ] at aQ0
        rw [← hT, ← hTB] at aB1
        rw [← hT, ← hTQ] at aQ1
        have aT : ∀ ww, (Op.stringOp .add s0 ⟨#[126]⟩).run Tryz.prog ww = .ok (.string sT) ww := aT0
        have aB : ∀ ww, (Op.stringOp .add s0 ⟨#[33]⟩).run Tryz.prog ww = .ok (.string sB) ww := aB0
        have aQ : ∀ ww, (Op.stringOp .add s0 ⟨#[63]⟩).run Tryz.prog ww = .ok (.string sQ) ww := aQ0
        have aTB : ∀ ww, (Op.stringOp .add sT ⟨#[33]⟩).run Tryz.prog ww = .ok (.string sTB) ww := aB1
        have aTQ : ∀ ww, (Op.stringOp .add sT ⟨#[63]⟩).run Tryz.prog ww = .ok (.string sTQ) ww := aQ1
        have HS := shut (And.intro hs0 (And.intro hT (And.intro hB (And.intro hQ (And.intro hTB hTQ)))))
        clear aT0 aB0 aQ0 aB1 aQ1 hs0 HS0 hT hB hQ hTB hTQ
        cases x3 with
        | false =>
          rcases hsh with rfl | rfl | rfl
          · go_wp2_with (at_builtin; refine wpList_append_lies _ rfl _ _ 65 rfl w1.heap.size 9 i0 _ 1 16 Tryz.underlying65 hi0 hz0 hz1 hz2 rfl (by omega) _ k _ rfl (hown3.alloc _) ⟨w2.heap.size, 0, none⟩ 1 1 [.string s0] rfl rfl (World.news_of_block (cs := #[.string s0]) (t := 9) (fr := (0, 0)) (heap_alloc_new _ _)) (by simp [Value.oneCell']) (by omega) (by unfold maxLen; omega) (by omega) (by simp; omega) (w2.heap.size + 1) (by simp) ?_; intro gg wcap w3 hown4 hgrow hat hgl)
            go_roundg (heads.length - (k + 1))
            case measure => omega
            case rel => exact ⟨k + 1, by omega, rfl, by simp, (hb2.alloc hb2.size (.cells #[.string s0] 9)).grown hgrow (by simp; omega) hge, HF.out w3 s0 wcap gg (by rw [HS.out.1]; simp [showL]) w3 hown4⟩
          · go_wp2_with (at_builtin; refine wpList_append_lies _ rfl _ _ 65 rfl w1.heap.size 9 i0 _ 1 16 Tryz.underlying65 hi0 hz0 hz1 hz2 rfl (by omega) _ k _ rfl (hown3.alloc _) ⟨w2.heap.size, 0, none⟩ 1 1 [.string sB] rfl rfl (World.news_of_block (cs := #[.string sB]) (t := 9) (fr := (0, 0)) (heap_alloc_new _ _)) (by simp [Value.oneCell']) (by omega) (by unfold maxLen; omega) (by omega) (by simp; omega) (w2.heap.size + 1) (by simp) ?_; intro gg wcap w3 hown4 hgrow hat hgl)
            go_roundg (heads.length - (k + 1))
            case measure => omega
            case rel => exact ⟨k + 1, by omega, rfl, by simp, (hb2.alloc hb2.size (.cells #[.string sB] 9)).grown hgrow (by simp; omega) hge, HF.out w3 sB wcap gg (by rw [HS.out.2.2.1]; simp [showL]) w3 hown4⟩
          · go_wp2_with (at_builtin; refine wpList_append_lies _ rfl _ _ 65 rfl w1.heap.size 9 i0 _ 1 16 Tryz.underlying65 hi0 hz0 hz1 hz2 rfl (by omega) _ k _ rfl (hown3.alloc _) ⟨w2.heap.size, 0, none⟩ 1 1 [.string sQ] rfl rfl (World.news_of_block (cs := #[.string sQ]) (t := 9) (fr := (0, 0)) (heap_alloc_new _ _)) (by simp [Value.oneCell']) (by omega) (by unfold maxLen; omega) (by omega) (by simp; omega) (w2.heap.size + 1) (by simp) ?_; intro gg wcap w3 hown4 hgrow hat hgl)
            go_roundg (heads.length - (k + 1))
            case measure => omega
            case rel => exact ⟨k + 1, by omega, rfl, by simp, (hb2.alloc hb2.size (.cells #[.string sQ] 9)).grown hgrow (by simp; omega) hge, HF.out w3 sQ wcap gg (by rw [HS.out.2.2.2.1]; simp [showL]) w3 hown4⟩
        | true =>
          rcases hsh with rfl | rfl | rfl
          · go_wp2_with (at_builtin; refine wpList_append_lies _ rfl _ _ 65 rfl w1.heap.size 9 i0 _ 1 16 Tryz.underlying65 hi0 hz0 hz1 hz2 rfl (by omega) _ k _ rfl (hown3.alloc _) ⟨w2.heap.size, 0, none⟩ 1 1 [.string sT] rfl rfl (World.news_of_block (cs := #[.string sT]) (t := 9) (fr := (0, 0)) (heap_alloc_new _ _)) (by simp [Value.oneCell']) (by omega) (by unfold maxLen; omega) (by omega) (by simp; omega) (w2.heap.size + 1) (by simp) ?_; intro gg wcap w3 hown4 hgrow hat hgl)
            go_roundg (heads.length - (k + 1))
            case measure => omega
            case rel => exact ⟨k + 1, by omega, rfl, by simp, (hb2.alloc hb2.size (.cells #[.string sT] 9)).grown hgrow (by simp; omega) hge, HF.out w3 sT wcap gg (by rw [HS.out.2.1]; simp [showL]) w3 hown4⟩
          · go_wp2_with (at_builtin; refine wpList_append_lies _ rfl _ _ 65 rfl w1.heap.size 9 i0 _ 1 16 Tryz.underlying65 hi0 hz0 hz1 hz2 rfl (by omega) _ k _ rfl (hown3.alloc _) ⟨w2.heap.size, 0, none⟩ 1 1 [.string sTB] rfl rfl (World.news_of_block (cs := #[.string sTB]) (t := 9) (fr := (0, 0)) (heap_alloc_new _ _)) (by simp [Value.oneCell']) (by omega) (by unfold maxLen; omega) (by omega) (by simp; omega) (w2.heap.size + 1) (by simp) ?_; intro gg wcap w3 hown4 hgrow hat hgl)
            go_roundg (heads.length - (k + 1))
            case measure => omega
            case rel => exact ⟨k + 1, by omega, rfl, by simp, (hb2.alloc hb2.size (.cells #[.string sTB] 9)).grown hgrow (by simp; omega) hge, HF.out w3 sTB wcap gg (by rw [HS.out.2.2.2.2.1]; simp [showL]) w3 hown4⟩
          · go_wp2_with (at_builtin; refine wpList_append_lies _ rfl _ _ 65 rfl w1.heap.size 9 i0 _ 1 16 Tryz.underlying65 hi0 hz0 hz1 hz2 rfl (by omega) _ k _ rfl (hown3.alloc _) ⟨w2.heap.size, 0, none⟩ 1 1 [.string sTQ] rfl rfl (World.news_of_block (cs := #[.string sTQ]) (t := 9) (fr := (0, 0)) (heap_alloc_new _ _)) (by simp [Value.oneCell']) (by omega) (by unfold maxLen; omega) (by omega) (by simp; omega) (w2.heap.size + 1) (by simp) ?_; intro gg wcap w3 hown4 hgrow hat hgl)
            go_roundg (heads.length - (k + 1))
            case measure => omega
            case rel => exact ⟨k + 1, by omega, rfl, by simp, (hb2.alloc hb2.size (.cells #[.string sTQ] 9)).grown hgrow (by simp; omega) hge, HF.out w3 sTQ wcap gg (by rw [HS.out.2.2.2.2.2]; simp [showL]) w3 hown4⟩
      · have hkl : k = heads.length := by omega
        subst hkl
        have htk : (heads.map headL).take heads.length = heads.map headL := List.take_of_length_le (by simp)
        rw [htk] at hown
        have hlm : (heads.map headL).length = heads.length := by simp
        obtain ⟨ao, cp, rfl⟩ := own_is hown
        have hown' : wr.ownsRow w1.heap.size 9 1 (.slice ao heads.length cp) (heads.map headL).length (((heads.map headL).map mkB).map Value.string) := by rw [hlm]; exact hown
        have hlen : ∀ y ∈ heads.map headL, y.length ≤ 100000 := fun y hy => by
          obtain ⟨h, hm, rfl⟩ := List.mem_map.1 hy
          have := headL_len (hok h hm)
          omega
        have hjl : (joinL (heads.map headL)).length ≤ 100 := by
          have := joinL_len (l := heads.map headL) (m := 7) fun y hy => by
            obtain ⟨h, hm, rfl⟩ := List.mem_map.1 hy
            exact headL_len (hok h hm)
          rw [hlm] at this
          have := Nat.mul_le_mul_right 8 h10
          omega
        have hvl := valueL_len hv
        by_cases h1 : heads.length = 1
        · obtain ⟨g, cap, hgv, _, _⟩ := hown'.form (by omega)
          injection hgv with hao _ hcc
          subst hao; subst hcc
          obtain ⟨h0, hx0⟩ : ∃ h0, heads = [h0] := List.length_eq_one_iff.1 h1
          have q0 : wr.cell? ⟨g, 0, none⟩ = some (.string (mkB (joinL (heads.map headL)))) := by
            have := hown'.cells (g := g) rfl 0 (.string (mkB (joinL (heads.map headL)))) (by rw [hx0]; simp [joinL])
            have hadd : (⟨g, 0, none⟩ : Addr).add 0 = ⟨g, 0, none⟩ := by unfold Addr.add; split <;> simp_all
            rwa [hadd] at this
          have ht : headsTextL heads = joinL (heads.map headL) := by unfold headsTextL; rw [if_pos h1]
          have a1 := fun ww => add_mk (joinL (heads.map headL)) [58] (by omega) (by simp) ww
          have a2 := fun ww => add_mk (joinL (heads.map headL) ++ [58]) (valueL lg dt) (by simp; omega) (by omega) ww
          rw [← ht] at a1 a2 q0
          rw [← Hf.out, ← Hz.out] at a2
          obtain ⟨sj, hsj⟩ : ∃ s, s = mkB (headsTextL heads) := ⟨_, rfl⟩
          obtain ⟨sk, hsk⟩ : ∃ s, s = mkB (headsTextL heads ++ [58]) := ⟨_, rfl⟩
          rw [← hsj] at q0
          rw [← hsj, ← hsk] at a1
          rw [← hsk] at a2
          have a1' : ∀ ww, (Op.stringOp .add sj ⟨#[58]⟩).run Tryz.prog ww = .ok (.string sk) ww := a1
          have l1 : ((heads.length : Nat) : Int) = 1 := by omega
          clear hsj hsk a1 hown hown' hlm hlen hjl hx0 ht hok hH h10 hlt hk hg
          go_wp2
          go_ret
          exact ⟨rfl, bbr⟩
        · have xj := join_own hown' (by omega) (by omega) hlen
          have ht : headsTextL heads = [60] ++ joinL (heads.map headL) ++ [62] := by unfold headsTextL; rw [if_neg h1]
          have a1 := fun ww => add_mk [60] (joinL (heads.map headL)) (by simp) (by omega) ww
          have a2 := fun ww => add_mk ([60] ++ joinL (heads.map headL)) [62, 58] (by simp; omega) (by simp) ww
          have a3 := fun ww => add_mk ([60] ++ joinL (heads.map headL) ++ [62, 58]) (valueL lg dt) (by simp; omega) (by omega) ww
          have e3 : [60] ++ joinL (heads.map headL) ++ [62, 58] ++ valueL lg dt = headsTextL heads ++ [58] ++ valueL lg dt := by rw [ht]; simp
          rw [e3, ← Hf.out, ← Hz.out] at a3
          obtain ⟨sj, hsj⟩ : ∃ s, s = mkB (joinL (heads.map headL)) := ⟨_, rfl⟩
          obtain ⟨sk, hsk⟩ : ∃ s, s = mkB ([60] ++ joinL (heads.map headL)) := ⟨_, rfl⟩
          obtain ⟨sl, hsl⟩ : ∃ s, s = mkB ([60] ++ joinL (heads.map headL) ++ [62, 58]) := ⟨_, rfl⟩
          rw [← hsj] at xj
          rw [← hsj, ← hsk] at a1
          rw [← hsk, ← hsl] at a2
          rw [← hsl] at a3
          have a1' : ∀ ww, (Op.stringOp .add ⟨#[60]⟩ sj).run Tryz.prog ww = .ok (.string sk) ww := a1
          have a2' : ∀ ww, (Op.stringOp .add sk ⟨#[62, 58]⟩).run Tryz.prog ww = .ok (.string sl) ww := a2
          have l1 : ¬ ((heads.length : Nat) : Int) = 1 := by omega
          clear hsj hsk hsl a1 a2 hown hown' hlm hlen hjl ht e3 hok hH h10 hlt hk hg h1
          go_wp2_with (go_at_call 36; refine xj.mono ?_)
          intro e w4; first | (intro he b4; subst he) | rintro ⟨rfl, b4⟩
          go_wp2
          go_ret
          exact ⟨rfl, bbr.trans (b4.mono bbr.size)⟩
  · have e0 : bodyL ⟨site, num, 2, lg, dt, heads, graces, ar, orn, dy, lyr, st, be⟩ = [114, 58] ++ valueL lg dt := by simp [bodyL]
    rw [e0]
    have a1 := fun ww => add_mk [114, 58] (valueL lg dt) (by simp) (by omega) ww
    obtain ⟨z, hz⟩ : ∃ z, z = mkB (valueL lg dt) := ⟨_, rfl⟩
    obtain ⟨z2, hz2⟩ : ∃ z, z = mkB ([114, 58] ++ valueL lg dt) := ⟨_, rfl⟩
    rw [← hz2] at a1 ⊢
    rw [← hz] at a1 hvt
    have a2 : ∀ ww, (Op.stringOp .add ⟨#[114, 58]⟩ z).run Tryz.prog ww = .ok (.string z2) ww := a1
    clear a1 hz hz2 e0
    go_enter Tryz.func33, Tryz.ntmps33
    go_wp2_with (go_at_call 61; refine (hvt _ b0).mono ?_)
    intro e w1; first | (intro he b1; subst he) | rintro ⟨rfl, b1⟩
    have hB1 := (b1.block w.heap.size (by simp)).trans hB0
    obtain ⟨k0, k1, k2, k3, k4, k5, k6, k7, k8, k9, k10, k11, k12⟩ := box13 hB1
    go_wp2
    go_ret
    exact ⟨rfl, b0.trans (b1.mono (by first | omega | simp))⟩
  · have e0 : bodyL ⟨site, num, 3, lg, dt, heads, graces, ar, orn, dy, lyr, st, be⟩ = [82] := by simp [bodyL]
    rw [e0]
    clear e0
    go_enter Tryz.func33, Tryz.ntmps33
    go_wp2_with (go_at_call 61; refine (hvt _ b0).mono ?_)
    intro e w1; first | (intro he b1; subst he) | rintro ⟨rfl, b1⟩
    have hB1 := (b1.block w.heap.size (by simp)).trans hB0
    obtain ⟨k0, k1, k2, k3, k4, k5, k6, k7, k8, k9, k10, k11, k12⟩ := box13 hB1
    go_wp2
    go_ret
    exact ⟨rfl, b0.trans (b1.mono (by first | omega | simp))⟩
  · have e0 : bodyL ⟨site, num, 4, lg, dt, heads, graces, ar, orn, dy, lyr, st, be⟩ = [115, 58] ++ valueL lg dt := by simp [bodyL]
    rw [e0]
    have a1 := fun ww => add_mk [115, 58] (valueL lg dt) (by simp) (by omega) ww
    obtain ⟨z, hz⟩ : ∃ z, z = mkB (valueL lg dt) := ⟨_, rfl⟩
    obtain ⟨z2, hz2⟩ : ∃ z, z = mkB ([115, 58] ++ valueL lg dt) := ⟨_, rfl⟩
    rw [← hz2] at a1 ⊢
    rw [← hz] at a1 hvt
    have a2 : ∀ ww, (Op.stringOp .add ⟨#[115, 58]⟩ z).run Tryz.prog ww = .ok (.string z2) ww := a1
    clear a1 hz hz2 e0
    go_enter Tryz.func33, Tryz.ntmps33
    go_wp2_with (go_at_call 61; refine (hvt _ b0).mono ?_)
    intro e w1; first | (intro he b1; subst he) | rintro ⟨rfl, b1⟩
    have hB1 := (b1.block w.heap.size (by simp)).trans hB0
    obtain ⟨k0, k1, k2, k3, k4, k5, k6, k7, k8, k9, k10, k11, k12⟩ := box13 hB1
    go_wp2
    go_ret
    exact ⟨rfl, b0.trans (b1.mono (by first | omega | simp))⟩
end Go.Proofs.YtholnnabakaliaaGreatDoor
