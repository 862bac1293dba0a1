/-
  A part of the proof that the law ParserNests (chapter 19) returns true for every depth and every list of notes: walks of the program's functions, and runs of them in the kernel by the own evaluator.
-/
import Derived.Test.YtmoddgkjaimpfaaGreatDoorLxf
namespace Go.Proofs.YtmoddgkjaimpfaaGreatDoor
open Go.RowKit

section
variable {B X : Nat} {ks : List (Nat × Obj)} {s : ByteArray} {lines : Value} {pos : Int} {lv : Value} {n : Nat} {xs : List Value} {e wr : Int} {w0 w : World}

theorem Scn.more (h : Scn B X ks s lines pos lv n xs e wr w0 w) {k : Nat} {o : Obj} (hk : w.heap[k]? = some o) (hX : k ≠ X) (hB : B ≤ k) (ho : ∀ cs fr, o ≠ .cells cs 85 fr) : Scn B X ((k, o) :: ks) s lines pos lv n xs e wr w0 w :=
  ⟨h.hX, h.hB, h.blk, h.own, fun p hp => by
    rcases List.mem_cons.1 hp with rfl | hp
    · exact ⟨hk, hX, hB, ho⟩
    · exact h.keep p hp, h.below⟩

theorem Scn.less {p : Nat × Obj} (h : Scn B X (p :: ks) s lines pos lv n xs e wr w0 w) : Scn B X ks s lines pos lv n xs e wr w0 w :=
  ⟨h.hX, h.hB, h.blk, h.own, fun q hq => h.keep q (List.mem_cons_of_mem _ hq), h.below⟩
end

theorem Scn.box {B X : Nat} {ks : List (Nat × Obj)} {s : ByteArray} {lines : Value} {pos : Int} {lv : Value} {n : Nat} {xs : List Value} {e wr : Int} {w0 w : World} (h : Scn B X ks s lines pos lv n xs e wr w0 w) {k : Nat} {v : Value} {T : TypeId} (hk : (k, Obj.cells #[v] T (0, 0)) ∈ ks) : w.cell? ⟨k, 0, none⟩ = some v := by
  rw [Lib.cell_of_heap (h.keep _ hk).1]; rfl

/-- How far the loop is: it goes on, or a number was too long. -/
inductive Going (B X : Nat) (ks : List (Nat × Obj)) (s : ByteArray) (lines : Value) (wr : Int) (w0 : World) (N : Nat) (all : List Value) (out : Option Nat) (g : Nat) (w : World) : Prop
  | on (a n : Nat) (toks : List Tok) (lv : Value) (xs : List Value) (h : Lx s a n toks out) (hS : Scn B X ks s lines a lv n xs 0 wr w0 w) (hN : n + toks.length = N) (hall : xs ++ cellsOf toks = all) (hg : toks.length < g)
  | failed (b n : Nat) (pos : Nat) (lv : Value) (xs : List Value) (hout : out = some b) (hS : Scn B X ks s lines pos lv n xs 5 b w0 w)

/-- How it ends. -/
def Ended (B X : Nat) (ks : List (Nat × Obj)) (s : ByteArray) (lines : Value) (wr : Int) (w0 : World) (N : Nat) (all : List Value) (out : Option Nat) (w : World) : Prop :=
  (out = none ∧ ∃ (pos : Nat) (lv : Value), Scn B X ks s lines pos lv N all 0 wr w0 w) ∨
  (∃ (b pos n : Nat) (lv : Value) (xs : List Value), out = some b ∧ Scn B X ks s lines pos lv n xs 5 b w0 w)

section
variable {B X L : Nat} {ks : List (Nat × Obj)} {s : ByteArray} {lv : Value} {n a : Nat} {xs : List Value} {wz : Int} {w0 w : World} {toks : List Tok} {out : Option Nat}

set_option maxHeartbeats 16000000 in
set_option maxRecDepth 100000 in
theorem scan_walk (hx : Lx s a n toks out) (h : Scn B X ks s (.slice (some ⟨L, 0, none⟩) 1 1) a lv n xs 0 wz w0 w) (hL : (L, lineRow) ∈ ks) (hsz : s.size ≤ 1048576) (hn : n + toks.length ≤ 262143) :
    Calls Tryz.prog 21 #[.pointer (some ⟨X, 0, none⟩)] w fun r w' => r = .returned (.tuple #[]) ∧ Ended B X ks s (.slice (some ⟨L, 0, none⟩) 1 1) wz w0 (n + toks.length) (xs ++ cellsOf toks) out w' := by
  have hlt := h.lt
  have hBw := h.hB
  have hW : Scn B X ((w.heap.size + 1, takersRow) :: (w.heap.size, .cells #[.pointer (some ⟨X, 0, none⟩)] 89 (0, 0)) :: ks) s (.slice (some ⟨L, 0, none⟩) 1 1) a lv n xs 0 wz w0 ((w.alloc (.cells #[.pointer (some ⟨X, 0, none⟩)] 89)).alloc takersRow) := by
    refine Scn.more (Scn.more (h.step (((Below.refl _ w).alloc (Nat.le_refl _) _).alloc (by simp) _)) ?_ (by omega) hBw (by intro cs fr hc; injection hc with _ h2 _; exact absurd h2 (by decide))) ?_ (by omega) (by omega) (by intro cs fr hc; injection hc with _ h2 _; exact absurd h2 (by decide))
    · exact (Lib.alloc_old _ _ _ (by simp)).trans (heap_alloc_new w _)
    · have := heap_alloc_new (w.alloc (.cells #[.pointer (some ⟨X, 0, none⟩)] 89)) takersRow
      simpa using this
  generalize hBx : w.heap.size = Bx at hW hlt hBw
  go_enter Tryz.func21, Tryz.ntmps21
  go_wp2
  generalize hV : ((w.alloc (.cells #[.pointer (some ⟨X, 0, none⟩)] 89)).alloc (.cells #[.func (.func 43) #[] #[], .func (.func 44) #[] #[], .func (.func 45) #[] #[], .func (.func 46) #[] #[]] 127)) = V
  have hW' : Scn B X ((Bx + 1, takersRow) :: (Bx, .cells #[.pointer (some ⟨X, 0, none⟩)] 89 (0, 0)) :: ks) s (.slice (some ⟨L, 0, none⟩) 1 1) a lv n xs 0 wz w0 V := by rw [← hV]; exact hW
  clear hW hV h hlt hBw hBx
  go_loopg [3] (toks.length + 1) (fun g v wr' => Going B X ((Bx + 1, takersRow) :: (Bx, .cells #[.pointer (some ⟨X, 0, none⟩)] 89 (0, 0)) :: ks) s (.slice (some ⟨L, 0, none⟩) 1 1) wz w0 (n + toks.length) (xs ++ cellsOf toks) out g wr')
  case atStart => exact .on a n toks lv xs hx hW' rfl rfl (by omega)
  case round =>
    clear hW' hx
    cases hrel with
    | failed b n' pos lv' xs' hout hS =>
      have d4 := hS.c4
      have k1 : wr.cell? ⟨Bx, 0, none⟩ = some (.pointer (some ⟨X, 0, none⟩)) := hS.box (T := 89) (by simp)
      have hfin : Ended B X ks s (.slice (some ⟨L, 0, none⟩) 1 1) wz w0 (n + toks.length) (xs ++ cellsOf toks) out wr := .inr ⟨b, pos, n', lv', xs', hout, hS.less.less⟩
      clear hS
      go_wp2
      go_end0
      exact ⟨rfl, hfin⟩
    | on a n' toks' lv' xs' hx' hS hN hall hg =>
      have d4 := hS.c4
      have k1 : wr.cell? ⟨Bx, 0, none⟩ = some (.pointer (some ⟨X, 0, none⟩)) := hS.box (T := 89) (by simp)
      rcases lx_step hx' hsz (by omega) with ⟨b, hu, hb, htoks, hout⟩ | ⟨b, p, hu, hb, hnp, hp, hstep⟩
      · have hsk := skip_walk hS hsz b hu (fun h => absurd h (by omega))
        clear hS
        go_wp2_with (go_at_call 47; refine hsk.mono ?_)
        rintro e w2 ⟨rfl, hS2⟩
        have k2 : w2.cell? ⟨Bx, 0, none⟩ = some (.pointer (some ⟨X, 0, none⟩)) := hS2.box (T := 89) (by simp)
        clear d4 k1
        subst hb
        go_wp2
        have hj3 : (w2.alloc (.cells #[.bool (!decide (a < s.size))] 4)).cell? ⟨w2.heap.size, 0, none⟩ = some (.bool (!decide (a < s.size))) := by rw [Lib.cell_of_heap (heap_alloc_new w2 _)]; rfl
        have hS3 := hS2.step ((Below.refl _ w2).alloc (Nat.le_refl _) (.cells #[.bool (!decide (a < s.size))] 4))
        generalize hV3 : w2.alloc (.cells #[.bool (!decide (a < s.size))] 4) = V3 at hS3 hj3 ⊢
        generalize w2.heap.size = Bj at hj3 ⊢
        clear hV3 hS2 k2
        have k3 : V3.cell? ⟨Bx, 0, none⟩ = some (.pointer (some ⟨X, 0, none⟩)) := hS3.box (T := 89) (by simp)
        have c30 := hS3.c0
        have c31 := hS3.c1
        go_quiet (fail)
        have hS4 := hS3.step (below_drewN (Below.refl _ V3) nq)
        have j4 : (V3.drewN nq).cell? ⟨Bj, 0, none⟩ = some (.bool (!decide (a < s.size))) := hj3
        generalize V3.drewN nq = V4 at hS4 j4 ⊢
        have k4 : V4.cell? ⟨Bx, 0, none⟩ = some (.pointer (some ⟨X, 0, none⟩)) := hS4.box (T := 89) (by simp)
        have c41 := hS4.c1
        clear hS3 hj3 k3 c30 c31
        go_wp2
        go_still_tail 7, (by kernel_rfl)
        change wpList _ _ _ _ _ V4.drew
        have hS5 := hS4.step ((Below.refl _ V4).drew)
        generalize V4.drew = V5 at hS5 ⊢
        clear k4 c41 j4 hS4
        have hadd := add_walk hS5 (by simp [hL]) hsz (by omega) s.size (Nat.le_refl _) (Nat.le_refl _) 0 0 ByteArray.empty (!decide (a < s.size))
        go_wp2_with (go_at_call 48; refine hadd.mono ?_)
        rintro e w6 ⟨rfl, lv6, hS6⟩
        go_wp2
        refine bodyPost_ret (results_none rfl _ _ _) rfl ?_
        refine ⟨rfl, .inl ⟨hout, s.size, lv6, ?_⟩⟩
        subst htoks
        have e1 : n + toks.length = n' + 1 := by rw [← hN]; rfl
        rw [e1, ← hall]
        simpa [cellsOf] using hS6.less.less
      · have hj : p < 4 := hp
        have hsk := skip_walk hS hsz b hu hnp
        clear hS
        go_wp2_with (go_at_call 47; refine hsk.mono ?_)
        rintro e w2 ⟨rfl, hS2⟩
        have k2 : w2.cell? ⟨Bx, 0, none⟩ = some (.pointer (some ⟨X, 0, none⟩)) := hS2.box (T := 89) (by simp)
        clear d4 k1
        go_wp2
        have hj3 : (w2.alloc (.cells #[.bool (!decide (a < b))] 4)).cell? ⟨w2.heap.size, 0, none⟩ = some (.bool (!decide (a < b))) := by rw [Lib.cell_of_heap (heap_alloc_new w2 _)]; rfl
        have hS3 := hS2.step ((Below.refl _ w2).alloc (Nat.le_refl _) (.cells #[.bool (!decide (a < b))] 4))
        generalize hV3 : w2.alloc (.cells #[.bool (!decide (a < b))] 4) = V3 at hS3 hj3 ⊢
        generalize w2.heap.size = Bj at hj3 ⊢
        clear hV3 hS2 k2
        have k3 : V3.cell? ⟨Bx, 0, none⟩ = some (.pointer (some ⟨X, 0, none⟩)) := hS3.box (T := 89) (by simp)
        have c30 := hS3.c0
        have c31 := hS3.c1
        have hne : ¬ ((b : Int) = (s.size : Int)) := by omega
        go_quiet (fail)
        have hS4 := hS3.step (below_drewN (Below.refl _ V3) nq)
        have j4 : (V3.drewN nq).cell? ⟨Bj, 0, none⟩ = some (.bool (!decide (a < b))) := hj3
        generalize V3.drewN nq = V4 at hS4 j4 ⊢
        have k4 : V4.cell? ⟨Bx, 0, none⟩ = some (.pointer (some ⟨X, 0, none⟩)) := hS4.box (T := 89) (by simp)
        obtain ⟨ao, cp, rfl⟩ := hS4.lvIs
        have c43 := hS4.c3
        have hne2 : ¬ ((n' : Int) = 262144) := by omega
        obtain ⟨hmiss, hhit⟩ := hstep B X L _ _ _ wz w0 _ (List.mem_cons_of_mem _ (List.mem_cons_of_mem _ hL)) hS4
        have hK : V4.heap[Bx + 1]? = some takersRow := (hS4.keep (Bx + 1, takersRow) (by simp)).1
        have htk := takes_walk p hp hK k4 j4 hmiss hhit
        clear hS3 hj3 k3 c30 c31 hmiss hhit hsk hS4 hstep
        go_wp2_with (go_at_call 50; refine htk.mono ?_)
        rintro e w6 ⟨rfl, hA⟩
        go_wp2
        rcases hA with ⟨t, tk, lv2, c, rfl, hx2, hS2⟩ | ⟨b', rfl, hout, hS2⟩
        · go_roundg (gk - 1)
          case measure => simp only [List.length_cons] at hg; omega
          case rel =>
            refine .on c (n' + 1) tk lv2 _ hx2 hS2 ?_ ?_ ?_
            · rw [← hN]; simp only [List.length_cons]; omega
            · rw [← hall]; simp [cellsOf]
            · simp only [List.length_cons] at hg; omega
        · go_roundg 0
          case measure => simp only [List.length_nil] at hg; omega
          case rel => exact .failed b' n' b _ _ hout hS2
end
end Go.Proofs.YtmoddgkjaimpfaaGreatDoor

namespace Go.Proofs.YtmoddgkjaimpfaaGreatDoor
open Go.RowKit

/-- What Scan returns, and leaves. -/
def Scanned (toks : List Tok) (out : Option Nat) (w : World) (r : Ending) (w' : World) : Prop :=
  Below w.heap.size w w' ∧
  ((out = none ∧ ∃ lv, r = .returned (.tuple #[lv, .int .i64 0, .int .i64 0, .int .i64 0]) ∧ w'.ownsRow w.heap.size 85 7 lv toks.length (cellsOf toks)) ∨
   (∃ b : Nat, out = some b ∧ r = .returned (.tuple #[.slice none 0 0, .int .i64 1, .int .i64 ((b : Int) + 1), .int .i64 5])))

theorem results_tmp4 {fn : Func} {t u v x : Tmp} (h : fn.results = #[.tmp t, .tmp u, .tmp v, .tmp x]) (tmps : Array Value) (P : Program) (w : World) :
    (results fn tmps).run P w = .ok (.tuple #[tmps.getD t undef, tmps.getD u undef, tmps.getD v undef, tmps.getD x undef]) w := by
  simp [results, h]

set_option maxHeartbeats 16000000 in
set_option maxRecDepth 100000 in
theorem lexScan {s : ByteArray} {toks : List Tok} {out : Option Nat} (hx : Lx s 0 0 toks out) (hsz : s.size ≤ 1048576) (hnl : ∀ k (h : k < s.size), ¬ ((s[k].toNat : Nat) : Int) = 10) (hlong : ∀ b, out = some b → b ≤ 1048576) (hn : toks.length ≤ 262143) (w : World) :
    Calls Tryz.prog 12 #[.string s] w (Scanned toks out w) := by
  have hW : Scn w.heap.size (w.heap.size + 1) [(w.heap.size, lineRow)] s (.slice (some ⟨w.heap.size, 0, none⟩) 1 1) (0 : Nat) (.slice none 0 0) 0 [] 0 0 w ((w.alloc (.cells #[.int .i64 0] 3)).alloc (.cells #[.string s, .int .i64 0, .slice (some ⟨w.heap.size, 0, none⟩) 1 1, .slice none 0 0, .int .i64 0, .int .i64 0] 92)) := by
    have hb : Below w.heap.size w ((w.alloc (.cells #[.int .i64 0] 3)).alloc (.cells #[.string s, .int .i64 0, .slice (some ⟨w.heap.size, 0, none⟩) 1 1, .slice none 0 0, .int .i64 0, .int .i64 0] 92)) := ((Below.refl _ w).alloc (Nat.le_refl _) _).alloc (by simp) _
    refine ⟨by omega, by simp; omega, ?_, World.ownsRow_nil _ _ _ _, ?_, hb⟩
    · have := heap_alloc_new (w.alloc (.cells #[.int .i64 0] 3)) (.cells #[.string s, .int .i64 0, .slice (some ⟨w.heap.size, 0, none⟩) 1 1, .slice none 0 0, .int .i64 0, .int .i64 0] 92)
      simpa using this
    · intro p hp
      obtain rfl := List.mem_singleton.1 hp
      refine ⟨(Lib.alloc_old _ _ _ (by simp)).trans (heap_alloc_new w _), by simp, Nat.le_refl _, ?_⟩
      intro cs fr hc; injection hc with _ h2 _; exact absurd h2 (by decide)
  have hs1 : ¬ (1048576 : Int) < s.size := by omega
  generalize hL : w.heap.size = L at hW
  go_enter Tryz.func12, Tryz.ntmps12
  go_wp2
  generalize hV : ((w.alloc (.cells #[.int .i64 0] 3)).alloc (.cells #[.string s, .int .i64 0, .slice (some ⟨L, 0, none⟩) 1 1, .slice none 0 0, .int .i64 0, .int .i64 0] 92)) = V at hW ⊢
  clear hV
  go_loop [17] (fun v => ∃ k : Nat, k ≤ s.size ∧ v = .int .i64 k) (fun v => s.size - (intOf v).toNat)
  case atStart => exact ⟨0, Nat.zero_le _, rfl⟩
  case round =>
    obtain ⟨k, hk, rfl⟩ := hrel
    by_cases hlt : k < s.size
    · have hne := hnl k hlt
      have hlt' : (k : Int) < s.size := by omega
      have hk0 : (0 : Int) ≤ (k : Int) := by omega
      clear hW
      go_wp2
      go_round
      case rel => exact ⟨k + 1, hlt, by go_num⟩
      case measure => simp [intOf]; omega
    · have hlt' : ¬ (k : Int) < s.size := by omega
      have hsc := scan_walk hx hW (by simp) hsz (by omega)
      clear hW
      go_wp2_with (go_at_call 21; refine hsc.mono ?_)
      rintro e w2 rfl hE
      rcases hE with ⟨rfl, pos, lv, hS⟩ | ⟨b, pos, n, lv, xs, rfl, hS⟩
      · have c4 := hS.c4
        have c3 := hS.c3
        have hown : w2.ownsRow L 85 7 lv toks.length (cellsOf toks) := by simpa using hS.own
        have hbel := hS.below
        clear hS
        go_wp2
        refine bodyPost_ret (results_tmp4 rfl _ _ _) rfl ?_
        exact ⟨by rw [hL]; exact hbel, .inl ⟨rfl, lv, rfl, by rw [hL]; exact hown⟩⟩
      · have c4 := hS.c4
        have c5 := hS.c5
        have hbel := hS.below
        have hpl := place_walk hS (by simp) b (hlong b rfl)
        have hst := fun w' (h : Below w2.heap.size w2 w') => hS.step h
        clear hS
        go_wp2_with (go_at_call 22; refine hpl.mono ?_)
        rintro e w3 ⟨rfl, b3⟩
        have hS3 := hst _ b3
        have d4 := hS3.c4
        have hbel3 := hS3.below
        clear hS3 hst hpl
        go_wp2
        go_region
        all_goals go_wp2
        all_goals refine bodyPost_ret (results_tmp4 rfl _ _ _) rfl ?_
        all_goals exact ⟨by rw [hL]; exact hbel3.drew, .inr ⟨b, rfl, rfl⟩⟩
end Go.Proofs.YtmoddgkjaimpfaaGreatDoor
