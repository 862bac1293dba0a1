/-
  A part of the proof that the law ParserSheets (chapter 19) returns true for every sheet: walks of the program's functions, and runs of them in the kernel by the own evaluator.
-/
import Derived.Test.YtjnkppneilmpbaaGreatDoorSrt
import Derived.Deep.LoopGhost
namespace Go.Proofs.YtjnkppneilmpbaaGreatDoor
open Go.RowKit


theorem Tryz.szq49 : (Tryz.prog.info? 49).map (·.size) = some 6 := by kernel_rfl
set_option maxHeartbeats 8000000 in
set_option maxRecDepth 100000 in
/-- slices.EqualFunc at type 49: true, if the function says so of each two elements. -/
theorem eqf19 (v v' : Value) (rows rows' : List (Array Value)) (w : World) (hn : rows'.length = rows.length) (hbig : rows.length ≤ 1000000) (h : Els w 6 v rows) (h' : Els w 6 v' rows')
    (hf : ∀ (j : Nat) (r r' : Array Value), rows[j]? = some r → rows'[j]? = some r' → ∀ w', Below w.heap.size w w' → Calls Tryz.prog 17 #[.agg r, .agg r'] w' fun e w'' => e = .returned (.bool true) ∧ Below w'.heap.size w' w'') :
    Calls Tryz.prog 19 #[v, v', .func (.func 17) #[] #[]] w fun e w' => e = .returned (.bool true) ∧ Below w.heap.size w w' := by
  obtain ⟨ao, c, rfl⟩ := h.is
  obtain ⟨ao', c', rfl⟩ := h'.is
  rw [hn] at h' ⊢
  go_enter Tryz.func19, Tryz.ntmps19
  go_wp2
  go_loopg [17] rows.length (fun g s17 wr => ∃ k : Nat, k ≤ rows.length ∧ g = rows.length - k ∧ s17 = .int .i64 (k : Nat) ∧ Below w.heap.size w wr)
  case atStart => exact ⟨0, Nat.zero_le _, rfl, rfl, Below.refl _ _⟩
  case round =>
    obtain ⟨k, hk, hg, rfl, hb⟩ := hrel
    by_cases hlt : k < rows.length
    · have hlt' : (k : Int) < (rows.length : Int) := by omega
      have hk0 : (0 : Int) ≤ (k : Int) := by omega
      obtain ⟨g, r, rfl, hr, hs, ha, hc⟩ := (h.step hb).at hlt
      obtain ⟨g', r', rfl, hr', hs', ha', hc'⟩ := (h'.step hb).at (j := k) (by omega)
      have hcall := hf k r r' hr hr'
      have hz1 : (Tryz.prog.info? 49).map (·.size) = some r.size := by rw [hs]; exact Tryz.szq49
      have hz2 : (Tryz.prog.info? 49).map (·.size) = some r'.size := by rw [hs']; exact Tryz.szq49
      have hb1 := hb.alloc hb.size (.cells r 49)
      have hb2 := hb1.alloc hb1.size (.cells r' 49)
      have hcl := hcall _ hb2
      have hc2 : ∀ (j : Nat) (u : Value), r'[j]? = some u → (wr.alloc (.cells r 49)).cell? ⟨g', k * 6 + j, none⟩ = some u := fun j u hu => (((Below.refl _ wr).alloc (Nat.le_refl _) (.cells r 49)).cell (World.block_lt_of_cell? wr _ (hc' j u hu))).trans (hc' j u hu)
      have hp : ∀ g j, (⟨g, k * 6, none⟩ : Addr).add j = ⟨g, k * 6 + j, none⟩ := fun g j => by unfold Addr.add; split <;> simp_all
      clear hf hcall h h' hc' hb1
      have m1 : IntKind.i64.wrap ((k : Int) + 1) = (k : Int) + 1 := IntWalk.i64_in _ (by omega)
      go_wp2_with (first
        | (refine wpList_load_at rfl 49 _ rfl ⟨g, k * 6, none⟩ rfl r _ (fun j u hu => by rw [hp]; exact hc j u hu) Tryz.underlying49 rfl hz1 ?_)
        | (refine wpList_load_at rfl 49 _ rfl ⟨g', k * 6, none⟩ rfl r' _ (fun j u hu => by rw [hp]; exact hc2 j u hu) Tryz.underlying49 rfl hz2 ?_)
        | (refine wpList_store_new (w := wr) rfl 49 _ _ rfl r _ _ rfl rfl rfl hz1 (by rw [hs]; rfl) ha ?_)
        | (refine wpList_store_new rfl 49 _ _ rfl r' _ _ (by simp : wr.heap.size + 1 = _) rfl rfl hz2 (by rw [hs']; rfl) ha' ?_)
        | (refine wpList_load_row rfl 49 _ rfl wr.heap.size rfl 49 r (0, 0) _ (heap_alloc2_old wr _ _) Tryz.underlying49 rfl hz1 ?_)
        | (refine wpList_load_row rfl 49 _ rfl (wr.heap.size + 1) rfl 49 r' (0, 0) _ (heap_alloc2_new wr _ _) Tryz.underlying49 rfl hz2 ?_)
        | (go_at_call 17; refine hcl.mono ?_))
      intro e w2; first | (intro he b2; subst he) | rintro ⟨rfl, b2⟩
      go_wp2
      go_roundg (rows.length - (k + 1))
      case measure => omega
      case rel => exact ⟨k + 1, by omega, rfl, by simp, hb2.trans (b2.mono hb2.size)⟩
    · have : k = rows.length := by omega
      subst this
      clear hf
      go_wp2
      go_ret
      exact ⟨rfl, hb⟩

theorem Tryz.szq56 : (Tryz.prog.info? 56).map (·.size) = some 22 := by kernel_rfl
set_option maxHeartbeats 8000000 in
set_option maxRecDepth 100000 in
/-- slices.EqualFunc at type 56: true, if the function says so of each two elements. -/
theorem eqf20 (v v' : Value) (rows rows' : List (Array Value)) (w : World) (hn : rows'.length = rows.length) (hbig : rows.length ≤ 1000000) (h : Els w 22 v rows) (h' : Els w 22 v' rows')
    (hf : ∀ (j : Nat) (r r' : Array Value), rows[j]? = some r → rows'[j]? = some r' → ∀ w', Below w.heap.size w w' → Calls Tryz.prog 21 #[.agg r, .agg r'] w' fun e w'' => e = .returned (.bool true) ∧ Below w'.heap.size w' w'') :
    Calls Tryz.prog 20 #[v, v', .func (.func 21) #[] #[]] w fun e w' => e = .returned (.bool true) ∧ Below w.heap.size w w' := by
  obtain ⟨ao, c, rfl⟩ := h.is
  obtain ⟨ao', c', rfl⟩ := h'.is
  rw [hn] at h' ⊢
  go_enter Tryz.func20, Tryz.ntmps20
  go_wp2
  go_loopg [17] rows.length (fun g s17 wr => ∃ k : Nat, k ≤ rows.length ∧ g = rows.length - k ∧ s17 = .int .i64 (k : Nat) ∧ Below w.heap.size w wr)
  case atStart => exact ⟨0, Nat.zero_le _, rfl, rfl, Below.refl _ _⟩
  case round =>
    obtain ⟨k, hk, hg, rfl, hb⟩ := hrel
    by_cases hlt : k < rows.length
    · have hlt' : (k : Int) < (rows.length : Int) := by omega
      have hk0 : (0 : Int) ≤ (k : Int) := by omega
      obtain ⟨g, r, rfl, hr, hs, ha, hc⟩ := (h.step hb).at hlt
      obtain ⟨g', r', rfl, hr', hs', ha', hc'⟩ := (h'.step hb).at (j := k) (by omega)
      have hcall := hf k r r' hr hr'
      have hz1 : (Tryz.prog.info? 56).map (·.size) = some r.size := by rw [hs]; exact Tryz.szq56
      have hz2 : (Tryz.prog.info? 56).map (·.size) = some r'.size := by rw [hs']; exact Tryz.szq56
      have hb1 := hb.alloc hb.size (.cells r 56)
      have hb2 := hb1.alloc hb1.size (.cells r' 56)
      have hcl := hcall _ hb2
      have hc2 : ∀ (j : Nat) (u : Value), r'[j]? = some u → (wr.alloc (.cells r 56)).cell? ⟨g', k * 22 + j, none⟩ = some u := fun j u hu => (((Below.refl _ wr).alloc (Nat.le_refl _) (.cells r 56)).cell (World.block_lt_of_cell? wr _ (hc' j u hu))).trans (hc' j u hu)
      have hp : ∀ g j, (⟨g, k * 22, none⟩ : Addr).add j = ⟨g, k * 22 + j, none⟩ := fun g j => by unfold Addr.add; split <;> simp_all
      clear hf hcall h h' hc' hb1
      have m1 : IntKind.i64.wrap ((k : Int) + 1) = (k : Int) + 1 := IntWalk.i64_in _ (by omega)
      go_wp2_with (first
        | (refine wpList_load_at rfl 56 _ rfl ⟨g, k * 22, none⟩ rfl r _ (fun j u hu => by rw [hp]; exact hc j u hu) Tryz.underlying56 rfl hz1 ?_)
        | (refine wpList_load_at rfl 56 _ rfl ⟨g', k * 22, none⟩ rfl r' _ (fun j u hu => by rw [hp]; exact hc2 j u hu) Tryz.underlying56 rfl hz2 ?_)
        | (refine wpList_store_new (w := wr) rfl 56 _ _ rfl r _ _ rfl rfl rfl hz1 (by rw [hs]; rfl) ha ?_)
        | (refine wpList_store_new rfl 56 _ _ rfl r' _ _ (by simp : wr.heap.size + 1 = _) rfl rfl hz2 (by rw [hs']; rfl) ha' ?_)
        | (refine wpList_load_row rfl 56 _ rfl wr.heap.size rfl 56 r (0, 0) _ (heap_alloc2_old wr _ _) Tryz.underlying56 rfl hz1 ?_)
        | (refine wpList_load_row rfl 56 _ rfl (wr.heap.size + 1) rfl 56 r' (0, 0) _ (heap_alloc2_new wr _ _) Tryz.underlying56 rfl hz2 ?_)
        | (go_at_call 21; refine hcl.mono ?_))
      intro e w2; first | (intro he b2; subst he) | rintro ⟨rfl, b2⟩
      go_wp2
      go_roundg (rows.length - (k + 1))
      case measure => omega
      case rel => exact ⟨k + 1, by omega, rfl, by simp, hb2.trans (b2.mono hb2.size)⟩
    · have : k = rows.length := by omega
      subst this
      clear hf
      go_wp2
      go_ret
      exact ⟨rfl, hb⟩

theorem Tryz.szq75 : (Tryz.prog.info? 75).map (·.size) = some 2 := by kernel_rfl
set_option maxHeartbeats 8000000 in
set_option maxRecDepth 100000 in
/-- slices.EqualFunc at type 75: true, if the function says so of each two elements. -/
theorem eqf45 (v v' : Value) (rows rows' : List (Array Value)) (w : World) (hn : rows'.length = rows.length) (hbig : rows.length ≤ 1000000) (h : Els w 2 v rows) (h' : Els w 2 v' rows')
    (hf : ∀ (j : Nat) (r r' : Array Value), rows[j]? = some r → rows'[j]? = some r' → ∀ w', Below w.heap.size w w' → Calls Tryz.prog 46 #[.agg r, .agg r'] w' fun e w'' => e = .returned (.bool true) ∧ Below w'.heap.size w' w'') :
    Calls Tryz.prog 45 #[v, v', .func (.func 46) #[] #[]] w fun e w' => e = .returned (.bool true) ∧ Below w.heap.size w w' := by
  obtain ⟨ao, c, rfl⟩ := h.is
  obtain ⟨ao', c', rfl⟩ := h'.is
  rw [hn] at h' ⊢
  go_enter Tryz.func45, Tryz.ntmps45
  go_wp2
  go_loopg [17] rows.length (fun g s17 wr => ∃ k : Nat, k ≤ rows.length ∧ g = rows.length - k ∧ s17 = .int .i64 (k : Nat) ∧ Below w.heap.size w wr)
  case atStart => exact ⟨0, Nat.zero_le _, rfl, rfl, Below.refl _ _⟩
  case round =>
    obtain ⟨k, hk, hg, rfl, hb⟩ := hrel
    by_cases hlt : k < rows.length
    · have hlt' : (k : Int) < (rows.length : Int) := by omega
      have hk0 : (0 : Int) ≤ (k : Int) := by omega
      obtain ⟨g, r, rfl, hr, hs, ha, hc⟩ := (h.step hb).at hlt
      obtain ⟨g', r', rfl, hr', hs', ha', hc'⟩ := (h'.step hb).at (j := k) (by omega)
      have hcall := hf k r r' hr hr'
      have hz1 : (Tryz.prog.info? 75).map (·.size) = some r.size := by rw [hs]; exact Tryz.szq75
      have hz2 : (Tryz.prog.info? 75).map (·.size) = some r'.size := by rw [hs']; exact Tryz.szq75
      have hb1 := hb.alloc hb.size (.cells r 75)
      have hb2 := hb1.alloc hb1.size (.cells r' 75)
      have hcl := hcall _ hb2
      have hc2 : ∀ (j : Nat) (u : Value), r'[j]? = some u → (wr.alloc (.cells r 75)).cell? ⟨g', k * 2 + j, none⟩ = some u := fun j u hu => (((Below.refl _ wr).alloc (Nat.le_refl _) (.cells r 75)).cell (World.block_lt_of_cell? wr _ (hc' j u hu))).trans (hc' j u hu)
      have hp : ∀ g j, (⟨g, k * 2, none⟩ : Addr).add j = ⟨g, k * 2 + j, none⟩ := fun g j => by unfold Addr.add; split <;> simp_all
      clear hf hcall h h' hc' hb1
      have m1 : IntKind.i64.wrap ((k : Int) + 1) = (k : Int) + 1 := IntWalk.i64_in _ (by omega)
      go_wp2_with (first
        | (refine wpList_load_at rfl 75 _ rfl ⟨g, k * 2, none⟩ rfl r _ (fun j u hu => by rw [hp]; exact hc j u hu) Tryz.underlying75 rfl hz1 ?_)
        | (refine wpList_load_at rfl 75 _ rfl ⟨g', k * 2, none⟩ rfl r' _ (fun j u hu => by rw [hp]; exact hc2 j u hu) Tryz.underlying75 rfl hz2 ?_)
        | (refine wpList_store_new (w := wr) rfl 75 _ _ rfl r _ _ rfl rfl rfl hz1 (by rw [hs]; rfl) ha ?_)
        | (refine wpList_store_new rfl 75 _ _ rfl r' _ _ (by simp : wr.heap.size + 1 = _) rfl rfl hz2 (by rw [hs']; rfl) ha' ?_)
        | (refine wpList_load_row rfl 75 _ rfl wr.heap.size rfl 75 r (0, 0) _ (heap_alloc2_old wr _ _) Tryz.underlying75 rfl hz1 ?_)
        | (refine wpList_load_row rfl 75 _ rfl (wr.heap.size + 1) rfl 75 r' (0, 0) _ (heap_alloc2_new wr _ _) Tryz.underlying75 rfl hz2 ?_)
        | (go_at_call 46; refine hcl.mono ?_))
      intro e w2; first | (intro he b2; subst he) | rintro ⟨rfl, b2⟩
      go_wp2
      go_roundg (rows.length - (k + 1))
      case measure => omega
      case rel => exact ⟨k + 1, by omega, rfl, by simp, hb2.trans (b2.mono hb2.size)⟩
    · have : k = rows.length := by omega
      subst this
      clear hf
      go_wp2
      go_ret
      exact ⟨rfl, hb⟩

theorem Tryz.szq60 : (Tryz.prog.info? 60).map (·.size) = some 2 := by kernel_rfl
set_option maxHeartbeats 8000000 in
set_option maxRecDepth 100000 in
/-- slices.EqualFunc at type 60: true, if the function says so of each two elements. -/
theorem eqf61 (v v' : Value) (rows rows' : List (Array Value)) (w : World) (hn : rows'.length = rows.length) (hbig : rows.length ≤ 1000000) (h : Els w 2 v rows) (h' : Els w 2 v' rows')
    (hf : ∀ (j : Nat) (r r' : Array Value), rows[j]? = some r → rows'[j]? = some r' → ∀ w', Below w.heap.size w w' → Calls Tryz.prog 62 #[.agg r, .agg r'] w' fun e w'' => e = .returned (.bool true) ∧ Below w'.heap.size w' w'') :
    Calls Tryz.prog 61 #[v, v', .func (.func 62) #[] #[]] w fun e w' => e = .returned (.bool true) ∧ Below w.heap.size w w' := by
  obtain ⟨ao, c, rfl⟩ := h.is
  obtain ⟨ao', c', rfl⟩ := h'.is
  rw [hn] at h' ⊢
  go_enter Tryz.func61, Tryz.ntmps61
  go_wp2
  go_loopg [17] rows.length (fun g s17 wr => ∃ k : Nat, k ≤ rows.length ∧ g = rows.length - k ∧ s17 = .int .i64 (k : Nat) ∧ Below w.heap.size w wr)
  case atStart => exact ⟨0, Nat.zero_le _, rfl, rfl, Below.refl _ _⟩
  case round =>
    obtain ⟨k, hk, hg, rfl, hb⟩ := hrel
    by_cases hlt : k < rows.length
    · have hlt' : (k : Int) < (rows.length : Int) := by omega
      have hk0 : (0 : Int) ≤ (k : Int) := by omega
      obtain ⟨g, r, rfl, hr, hs, ha, hc⟩ := (h.step hb).at hlt
      obtain ⟨g', r', rfl, hr', hs', ha', hc'⟩ := (h'.step hb).at (j := k) (by omega)
      have hcall := hf k r r' hr hr'
      have hz1 : (Tryz.prog.info? 60).map (·.size) = some r.size := by rw [hs]; exact Tryz.szq60
      have hz2 : (Tryz.prog.info? 60).map (·.size) = some r'.size := by rw [hs']; exact Tryz.szq60
      have hb1 := hb.alloc hb.size (.cells r 60)
      have hb2 := hb1.alloc hb1.size (.cells r' 60)
      have hcl := hcall _ hb2
      have hc2 : ∀ (j : Nat) (u : Value), r'[j]? = some u → (wr.alloc (.cells r 60)).cell? ⟨g', k * 2 + j, none⟩ = some u := fun j u hu => (((Below.refl _ wr).alloc (Nat.le_refl _) (.cells r 60)).cell (World.block_lt_of_cell? wr _ (hc' j u hu))).trans (hc' j u hu)
      have hp : ∀ g j, (⟨g, k * 2, none⟩ : Addr).add j = ⟨g, k * 2 + j, none⟩ := fun g j => by unfold Addr.add; split <;> simp_all
      clear hf hcall h h' hc' hb1
      have m1 : IntKind.i64.wrap ((k : Int) + 1) = (k : Int) + 1 := IntWalk.i64_in _ (by omega)
      go_wp2_with (first
        | (refine wpList_load_at rfl 60 _ rfl ⟨g, k * 2, none⟩ rfl r _ (fun j u hu => by rw [hp]; exact hc j u hu) Tryz.underlying60 rfl hz1 ?_)
        | (refine wpList_load_at rfl 60 _ rfl ⟨g', k * 2, none⟩ rfl r' _ (fun j u hu => by rw [hp]; exact hc2 j u hu) Tryz.underlying60 rfl hz2 ?_)
        | (refine wpList_store_new (w := wr) rfl 60 _ _ rfl r _ _ rfl rfl rfl hz1 (by rw [hs]; rfl) ha ?_)
        | (refine wpList_store_new rfl 60 _ _ rfl r' _ _ (by simp : wr.heap.size + 1 = _) rfl rfl hz2 (by rw [hs']; rfl) ha' ?_)
        | (refine wpList_load_row rfl 60 _ rfl wr.heap.size rfl 60 r (0, 0) _ (heap_alloc2_old wr _ _) Tryz.underlying60 rfl hz1 ?_)
        | (refine wpList_load_row rfl 60 _ rfl (wr.heap.size + 1) rfl 60 r' (0, 0) _ (heap_alloc2_new wr _ _) Tryz.underlying60 rfl hz2 ?_)
        | (go_at_call 62; refine hcl.mono ?_))
      intro e w2; first | (intro he b2; subst he) | rintro ⟨rfl, b2⟩
      go_wp2
      go_roundg (rows.length - (k + 1))
      case measure => omega
      case rel => exact ⟨k + 1, by omega, rfl, by simp, hb2.trans (b2.mono hb2.size)⟩
    · have : k = rows.length := by omega
      subst this
      clear hf
      go_wp2
      go_ret
      exact ⟨rfl, hb⟩

theorem Tryz.szq67 : (Tryz.prog.info? 67).map (·.size) = some 13 := by kernel_rfl
set_option maxHeartbeats 8000000 in
set_option maxRecDepth 100000 in
/-- slices.EqualFunc at type 67: true, if the function says so of each two elements. -/
theorem eqf96 (v v' : Value) (rows rows' : List (Array Value)) (w : World) (hn : rows'.length = rows.length) (hbig : rows.length ≤ 1000000) (h : Els w 13 v rows) (h' : Els w 13 v' rows')
    (hf : ∀ (j : Nat) (r r' : Array Value), rows[j]? = some r → rows'[j]? = some r' → ∀ w', Below w.heap.size w w' → Calls Tryz.prog 97 #[.agg r, .agg r'] w' fun e w'' => e = .returned (.bool true) ∧ Below w'.heap.size w' w'') :
    Calls Tryz.prog 96 #[v, v', .func (.func 97) #[] #[]] w fun e w' => e = .returned (.bool true) ∧ Below w.heap.size w w' := by
  obtain ⟨ao, c, rfl⟩ := h.is
  obtain ⟨ao', c', rfl⟩ := h'.is
  rw [hn] at h' ⊢
  go_enter Tryz.func96, Tryz.ntmps96
  go_wp2
  go_loopg [17] rows.length (fun g s17 wr => ∃ k : Nat, k ≤ rows.length ∧ g = rows.length - k ∧ s17 = .int .i64 (k : Nat) ∧ Below w.heap.size w wr)
  case atStart => exact ⟨0, Nat.zero_le _, rfl, rfl, Below.refl _ _⟩
  case round =>
    obtain ⟨k, hk, hg, rfl, hb⟩ := hrel
    by_cases hlt : k < rows.length
    · have hlt' : (k : Int) < (rows.length : Int) := by omega
      have hk0 : (0 : Int) ≤ (k : Int) := by omega
      obtain ⟨g, r, rfl, hr, hs, ha, hc⟩ := (h.step hb).at hlt
      obtain ⟨g', r', rfl, hr', hs', ha', hc'⟩ := (h'.step hb).at (j := k) (by omega)
      have hcall := hf k r r' hr hr'
      have hz1 : (Tryz.prog.info? 67).map (·.size) = some r.size := by rw [hs]; exact Tryz.szq67
      have hz2 : (Tryz.prog.info? 67).map (·.size) = some r'.size := by rw [hs']; exact Tryz.szq67
      have hb1 := hb.alloc hb.size (.cells r 67)
      have hb2 := hb1.alloc hb1.size (.cells r' 67)
      have hcl := hcall _ hb2
      have hc2 : ∀ (j : Nat) (u : Value), r'[j]? = some u → (wr.alloc (.cells r 67)).cell? ⟨g', k * 13 + j, none⟩ = some u := fun j u hu => (((Below.refl _ wr).alloc (Nat.le_refl _) (.cells r 67)).cell (World.block_lt_of_cell? wr _ (hc' j u hu))).trans (hc' j u hu)
      have hp : ∀ g j, (⟨g, k * 13, none⟩ : Addr).add j = ⟨g, k * 13 + j, none⟩ := fun g j => by unfold Addr.add; split <;> simp_all
      clear hf hcall h h' hc' hb1
      have m1 : IntKind.i64.wrap ((k : Int) + 1) = (k : Int) + 1 := IntWalk.i64_in _ (by omega)
      go_wp2_with (first
        | (refine wpList_load_at rfl 67 _ rfl ⟨g, k * 13, none⟩ rfl r _ (fun j u hu => by rw [hp]; exact hc j u hu) Tryz.underlying67 rfl hz1 ?_)
        | (refine wpList_load_at rfl 67 _ rfl ⟨g', k * 13, none⟩ rfl r' _ (fun j u hu => by rw [hp]; exact hc2 j u hu) Tryz.underlying67 rfl hz2 ?_)
        | (refine wpList_store_new (w := wr) rfl 67 _ _ rfl r _ _ rfl rfl rfl hz1 (by rw [hs]; rfl) ha ?_)
        | (refine wpList_store_new rfl 67 _ _ rfl r' _ _ (by simp : wr.heap.size + 1 = _) rfl rfl hz2 (by rw [hs']; rfl) ha' ?_)
        | (refine wpList_load_row rfl 67 _ rfl wr.heap.size rfl 67 r (0, 0) _ (heap_alloc2_old wr _ _) Tryz.underlying67 rfl hz1 ?_)
        | (refine wpList_load_row rfl 67 _ rfl (wr.heap.size + 1) rfl 67 r' (0, 0) _ (heap_alloc2_new wr _ _) Tryz.underlying67 rfl hz2 ?_)
        | (go_at_call 97; refine hcl.mono ?_))
      intro e w2; first | (intro he b2; subst he) | rintro ⟨rfl, b2⟩
      go_wp2
      go_roundg (rows.length - (k + 1))
      case measure => omega
      case rel => exact ⟨k + 1, by omega, rfl, by simp, hb2.trans (b2.mono hb2.size)⟩
    · have : k = rows.length := by omega
      subst this
      clear hf
      go_wp2
      go_ret
      exact ⟨rfl, hb⟩
end Go.Proofs.YtjnkppneilmpbaaGreatDoor

namespace Go.Proofs.YtjnkppneilmpbaaGreatDoor
open Go.RowKit


set_option maxHeartbeats 8000000 in
set_option maxRecDepth 100000 in
/-- slices.Equal at type 44, of two slices with the same elements. -/
theorem eqs18 (v v' : Value) (rows : List (Array Value)) (w : World) (hbig : rows.length ≤ 1000000) (h : Els w 3 v rows) (h' : Els w 3 v' rows)
    (hf : ∀ r ∈ rows, ∃ a0 : Int, ∃ a1 : Int, ∃ a2 : Int, r = #[.int .i64 a0, .int .i64 a1, .int .i64 a2]) :
    Calls Tryz.prog 18 #[v, v'] w fun e w' => e = .returned (.bool true) ∧ Below w.heap.size w w' := by
  obtain ⟨ao, c, rfl⟩ := h.is
  obtain ⟨ao', c', rfl⟩ := h'.is
  go_enter Tryz.func18, Tryz.ntmps18
  go_wp2
  go_loopg [13] rows.length (fun g s13 wr => ∃ k : Nat, k ≤ rows.length ∧ g = rows.length - k ∧ s13 = .int .i64 (k : Nat) ∧ Below w.heap.size w wr)
  case atStart => exact ⟨0, Nat.zero_le _, rfl, rfl, Below.refl _ _⟩
  case round =>
    obtain ⟨k, hk, hg, rfl, hb⟩ := hrel
    by_cases hlt : k < rows.length
    · have hlt' : (k : Int) < (rows.length : Int) := by omega
      have hk0 : (0 : Int) ≤ (k : Int) := by omega
      obtain ⟨g, r, rfl, hr, hs, ha, hc⟩ := (h.step hb).at hlt
      obtain ⟨g', r', rfl, hr', hs', ha', hc'⟩ := (h'.step hb).at hlt
      rw [hr] at hr'
      injection hr' with hr'
      subst hr'
      obtain ⟨a0, a1, a2, rfl⟩ := hf _ (List.mem_of_getElem? hr)
      clear hf h h' ha ha' hs hs'
      have x0 : wr.cell? ⟨g, k * 3, none⟩ = some (.int .i64 a0) := hc 0 _ rfl
      have y0 : wr.cell? ⟨g', k * 3, none⟩ = some (.int .i64 a0) := hc' 0 _ rfl
      have x1 : wr.cell? ⟨g, k * 3 + 1, none⟩ = some (.int .i64 a1) := hc 1 _ rfl
      have y1 : wr.cell? ⟨g', k * 3 + 1, none⟩ = some (.int .i64 a1) := hc' 1 _ rfl
      have x2 : wr.cell? ⟨g, k * 3 + 2, none⟩ = some (.int .i64 a2) := hc 2 _ rfl
      have y2 : wr.cell? ⟨g', k * 3 + 2, none⟩ = some (.int .i64 a2) := hc' 2 _ rfl
      have m1 : IntKind.i64.wrap ((k : Int) + 1) = (k : Int) + 1 := IntWalk.i64_in _ (by omega)
      clear hc hc'
      go_wp2
      go_region
      all_goals go_wp2
      all_goals go_roundg (rows.length - (k + 1))
      all_goals first
        | omega
        | exact ⟨k + 1, by omega, rfl, by simp, hb.drew⟩
    · have : k = rows.length := by omega
      subst this
      go_wp2
      go_ret
      exact ⟨rfl, hb⟩

set_option maxHeartbeats 8000000 in
set_option maxRecDepth 100000 in
/-- slices.Equal at type 42, of two slices with the same elements. -/
theorem eqs23 (v v' : Value) (rows : List (Array Value)) (w : World) (hbig : rows.length ≤ 1000000) (h : Els w 2 v rows) (h' : Els w 2 v' rows)
    (hf : ∀ r ∈ rows, ∃ a0 : Int, ∃ a1 : Int, r = #[.int .i64 a0, .int .i64 a1]) :
    Calls Tryz.prog 23 #[v, v'] w fun e w' => e = .returned (.bool true) ∧ Below w.heap.size w w' := by
  obtain ⟨ao, c, rfl⟩ := h.is
  obtain ⟨ao', c', rfl⟩ := h'.is
  go_enter Tryz.func23, Tryz.ntmps23
  go_wp2
  go_loopg [13] rows.length (fun g s13 wr => ∃ k : Nat, k ≤ rows.length ∧ g = rows.length - k ∧ s13 = .int .i64 (k : Nat) ∧ Below w.heap.size w wr)
  case atStart => exact ⟨0, Nat.zero_le _, rfl, rfl, Below.refl _ _⟩
  case round =>
    obtain ⟨k, hk, hg, rfl, hb⟩ := hrel
    by_cases hlt : k < rows.length
    · have hlt' : (k : Int) < (rows.length : Int) := by omega
      have hk0 : (0 : Int) ≤ (k : Int) := by omega
      obtain ⟨g, r, rfl, hr, hs, ha, hc⟩ := (h.step hb).at hlt
      obtain ⟨g', r', rfl, hr', hs', ha', hc'⟩ := (h'.step hb).at hlt
      rw [hr] at hr'
      injection hr' with hr'
      subst hr'
      obtain ⟨a0, a1, rfl⟩ := hf _ (List.mem_of_getElem? hr)
      clear hf h h' ha ha' hs hs'
      have x0 : wr.cell? ⟨g, k * 2, none⟩ = some (.int .i64 a0) := hc 0 _ rfl
      have y0 : wr.cell? ⟨g', k * 2, none⟩ = some (.int .i64 a0) := hc' 0 _ rfl
      have x1 : wr.cell? ⟨g, k * 2 + 1, none⟩ = some (.int .i64 a1) := hc 1 _ rfl
      have y1 : wr.cell? ⟨g', k * 2 + 1, none⟩ = some (.int .i64 a1) := hc' 1 _ rfl
      have m1 : IntKind.i64.wrap ((k : Int) + 1) = (k : Int) + 1 := IntWalk.i64_in _ (by omega)
      clear hc hc'
      go_wp2
      go_region
      all_goals go_wp2
      all_goals go_roundg (rows.length - (k + 1))
      all_goals first
        | omega
        | exact ⟨k + 1, by omega, rfl, by simp, hb.drew⟩
    · have : k = rows.length := by omega
      subst this
      go_wp2
      go_ret
      exact ⟨rfl, hb⟩

set_option maxHeartbeats 8000000 in
set_option maxRecDepth 100000 in
/-- slices.Equal at type 71, of two slices with the same elements. -/
theorem eqs153 (v v' : Value) (rows : List (Array Value)) (w : World) (hbig : rows.length ≤ 1000000) (h : Els w 5 v rows) (h' : Els w 5 v' rows)
    (hf : ∀ r ∈ rows, ∃ a0 : Int, ∃ a1 : Int, ∃ a2 : Int, ∃ a3 : Bool, ∃ a4 : Int, r = #[.int .i64 a0, .int .i64 a1, .int .i64 a2, .bool a3, .int .i64 a4]) :
    Calls Tryz.prog 153 #[v, v'] w fun e w' => e = .returned (.bool true) ∧ Below w.heap.size w w' := by
  obtain ⟨ao, c, rfl⟩ := h.is
  obtain ⟨ao', c', rfl⟩ := h'.is
  go_enter Tryz.func153, Tryz.ntmps153
  go_wp2
  go_loopg [13] rows.length (fun g s13 wr => ∃ k : Nat, k ≤ rows.length ∧ g = rows.length - k ∧ s13 = .int .i64 (k : Nat) ∧ Below w.heap.size w wr)
  case atStart => exact ⟨0, Nat.zero_le _, rfl, rfl, Below.refl _ _⟩
  case round =>
    obtain ⟨k, hk, hg, rfl, hb⟩ := hrel
    by_cases hlt : k < rows.length
    · have hlt' : (k : Int) < (rows.length : Int) := by omega
      have hk0 : (0 : Int) ≤ (k : Int) := by omega
      obtain ⟨g, r, rfl, hr, hs, ha, hc⟩ := (h.step hb).at hlt
      obtain ⟨g', r', rfl, hr', hs', ha', hc'⟩ := (h'.step hb).at hlt
      rw [hr] at hr'
      injection hr' with hr'
      subst hr'
      obtain ⟨a0, a1, a2, a3, a4, rfl⟩ := hf _ (List.mem_of_getElem? hr)
      clear hf h h' ha ha' hs hs'
      have x0 : wr.cell? ⟨g, k * 5, none⟩ = some (.int .i64 a0) := hc 0 _ rfl
      have y0 : wr.cell? ⟨g', k * 5, none⟩ = some (.int .i64 a0) := hc' 0 _ rfl
      have x1 : wr.cell? ⟨g, k * 5 + 1, none⟩ = some (.int .i64 a1) := hc 1 _ rfl
      have y1 : wr.cell? ⟨g', k * 5 + 1, none⟩ = some (.int .i64 a1) := hc' 1 _ rfl
      have x2 : wr.cell? ⟨g, k * 5 + 2, none⟩ = some (.int .i64 a2) := hc 2 _ rfl
      have y2 : wr.cell? ⟨g', k * 5 + 2, none⟩ = some (.int .i64 a2) := hc' 2 _ rfl
      have x3 : wr.cell? ⟨g, k * 5 + 3, none⟩ = some (.bool a3) := hc 3 _ rfl
      have y3 : wr.cell? ⟨g', k * 5 + 3, none⟩ = some (.bool a3) := hc' 3 _ rfl
      have x4 : wr.cell? ⟨g, k * 5 + 4, none⟩ = some (.int .i64 a4) := hc 4 _ rfl
      have y4 : wr.cell? ⟨g', k * 5 + 4, none⟩ = some (.int .i64 a4) := hc' 4 _ rfl
      have m1 : IntKind.i64.wrap ((k : Int) + 1) = (k : Int) + 1 := IntWalk.i64_in _ (by omega)
      clear hc hc'
      go_wp2
      go_region
      all_goals go_wp2
      all_goals go_roundg (rows.length - (k + 1))
      all_goals first
        | omega
        | exact ⟨k + 1, by omega, rfl, by simp, hb.drew⟩
    · have : k = rows.length := by omega
      subst this
      go_wp2
      go_ret
      exact ⟨rfl, hb⟩

set_option maxHeartbeats 8000000 in
set_option maxRecDepth 100000 in
/-- slices.Equal of two nil slices. -/
theorem eqn22 (w : World) : Calls Tryz.prog 22 #[.slice none 0 0, .slice none 0 0] w fun e w' => e = .returned (.bool true) ∧ w' = w := by
  go_enter Tryz.func22, Tryz.ntmps22
  go_wp2
  go_loopg [13] 0 (fun g s13 wr => s13 = .int .i64 0 ∧ wr = w)
  case atStart => exact ⟨rfl, rfl⟩
  case round =>
    obtain ⟨rfl, rfl⟩ := hrel
    go_wp2
    go_ret
    exact ⟨rfl, rfl⟩

set_option maxHeartbeats 8000000 in
set_option maxRecDepth 100000 in
/-- slices.Equal of two nil slices. -/
theorem eqn44 (w : World) : Calls Tryz.prog 44 #[.slice none 0 0, .slice none 0 0] w fun e w' => e = .returned (.bool true) ∧ w' = w := by
  go_enter Tryz.func44, Tryz.ntmps44
  go_wp2
  go_loopg [13] 0 (fun g s13 wr => s13 = .int .i64 0 ∧ wr = w)
  case atStart => exact ⟨rfl, rfl⟩
  case round =>
    obtain ⟨rfl, rfl⟩ := hrel
    go_wp2
    go_ret
    exact ⟨rfl, rfl⟩

set_option maxHeartbeats 8000000 in
set_option maxRecDepth 100000 in
/-- slices.Equal of two nil slices. -/
theorem eqn60 (w : World) : Calls Tryz.prog 60 #[.slice none 0 0, .slice none 0 0] w fun e w' => e = .returned (.bool true) ∧ w' = w := by
  go_enter Tryz.func60, Tryz.ntmps60
  go_wp2
  go_loopg [13] 0 (fun g s13 wr => s13 = .int .i64 0 ∧ wr = w)
  case atStart => exact ⟨rfl, rfl⟩
  case round =>
    obtain ⟨rfl, rfl⟩ := hrel
    go_wp2
    go_ret
    exact ⟨rfl, rfl⟩

set_option maxHeartbeats 8000000 in
set_option maxRecDepth 100000 in
/-- slices.Equal of two nil slices. -/
theorem eqn129 (w : World) : Calls Tryz.prog 129 #[.slice none 0 0, .slice none 0 0] w fun e w' => e = .returned (.bool true) ∧ w' = w := by
  go_enter Tryz.func129, Tryz.ntmps129
  go_wp2
  go_loopg [13] 0 (fun g s13 wr => s13 = .int .i64 0 ∧ wr = w)
  case atStart => exact ⟨rfl, rfl⟩
  case round =>
    obtain ⟨rfl, rfl⟩ := hrel
    go_wp2
    go_ret
    exact ⟨rfl, rfl⟩

set_option maxHeartbeats 8000000 in
set_option maxRecDepth 100000 in
/-- slices.Equal of two nil slices. -/
theorem eqn154 (w : World) : Calls Tryz.prog 154 #[.slice none 0 0, .slice none 0 0] w fun e w' => e = .returned (.bool true) ∧ w' = w := by
  go_enter Tryz.func154, Tryz.ntmps154
  go_wp2
  go_loopg [13] 0 (fun g s13 wr => s13 = .int .i64 0 ∧ wr = w)
  case atStart => exact ⟨rfl, rfl⟩
  case round =>
    obtain ⟨rfl, rfl⟩ := hrel
    go_wp2
    go_ret
    exact ⟨rfl, rfl⟩

set_option maxHeartbeats 8000000 in
set_option maxRecDepth 100000 in
/-- slices.Equal of two nil slices. -/
theorem eqn155 (w : World) : Calls Tryz.prog 155 #[.slice none 0 0, .slice none 0 0] w fun e w' => e = .returned (.bool true) ∧ w' = w := by
  go_enter Tryz.func155, Tryz.ntmps155
  go_wp2
  go_loopg [13] 0 (fun g s13 wr => s13 = .int .i64 0 ∧ wr = w)
  case atStart => exact ⟨rfl, rfl⟩
  case round =>
    obtain ⟨rfl, rfl⟩ := hrel
    go_wp2
    go_ret
    exact ⟨rfl, rfl⟩
end Go.Proofs.YtjnkppneilmpbaaGreatDoor

namespace Go.Proofs.YtjnkppneilmpbaaGreatDoor
open Go.RowKit

def HeadForm (r : Array Value) : Prop := ∃ a0 : Int, ∃ a1 : Int, ∃ a2 : Int, ∃ a3 : Bool, ∃ a4 : Int, r = #[.int .i64 a0, .int .i64 a1, .int .i64 a2, .bool a3, .int .i64 a4]

set_option maxHeartbeats 16000000 in
set_option maxRecDepth 100000 in
theorem event_same (s n s' n' kd lg dt ar orn dy st be : Int) (ao ao' : Option Addr) (l l' c c' : Nat) (rows : List (Array Value)) (w : World) (hbig : rows.length ≤ 1000000) (h : Els w 5 (.slice ao l c) rows) (h' : Els w 5 (.slice ao' l' c') rows) (hf : ∀ r ∈ rows, HeadForm r) :
    Calls Tryz.prog 128 #[.agg #[.int .i64 s, .int .i64 n, .int .i64 kd, .int .i64 lg, .int .i64 dt, .slice ao l c, .slice none 0 0, .int .i64 ar, .int .i64 orn, .int .i64 dy, .slice none 0 0, .int .i64 st, .int .i64 be],
      .agg #[.int .i64 s', .int .i64 n', .int .i64 kd, .int .i64 lg, .int .i64 dt, .slice ao' l' c', .slice none 0 0, .int .i64 ar, .int .i64 orn, .int .i64 dy, .slice none 0 0, .int .i64 st, .int .i64 be]] w fun e w' => e = .returned (.bool true) ∧ Below w.heap.size w w' := by
  have hq := fun w' (b : Below w.heap.size w w') => eqs153 _ _ rows w' hbig (h.step b) (h'.step b) hf
  have hp4 := eqn154
  have hp5 := eqn155
  clear h h' hf
  go_enter Tryz.func128, Tryz.ntmps128
  go_wp2_with (first
    | (go_at_call 153; refine (hq _ (((Below.refl _ w).alloc (Nat.le_refl _) _).alloc (by simp) _)).mono ?_)
    | (go_at_call 154; refine (hp4 _).mono ?_; rintro e w' ⟨rfl, rfl⟩)
    | (go_at_call 155; refine (hp5 _).mono ?_; rintro e w' ⟨rfl, rfl⟩))
  intro e w2; first | (intro he b2; subst he) | rintro ⟨rfl, b2⟩
  have z0 := (b2.block w.heap.size (by simp; omega)).trans (heap_alloc2_old w _ _)
  have z1 := (b2.block (w.heap.size + 1) (by simp)).trans (heap_alloc2_new w _ _)
  have y0 : w2.cell? ⟨w.heap.size, 6, none⟩ = some (.slice none 0 0) := by rw [Lib.cell_of_heap z0]; rfl
  have y1 : w2.cell? ⟨w.heap.size + 1, 6, none⟩ = some (.slice none 0 0) := by rw [Lib.cell_of_heap z1]; rfl
  have y2 : w2.cell? ⟨w.heap.size, 10, none⟩ = some (.slice none 0 0) := by rw [Lib.cell_of_heap z0]; rfl
  have y3 : w2.cell? ⟨w.heap.size + 1, 10, none⟩ = some (.slice none 0 0) := by rw [Lib.cell_of_heap z1]; rfl
  go_wp2_with (first
    | (go_at_call 154; refine (hp4 _).mono ?_; rintro e w' ⟨rfl, rfl⟩)
    | (go_at_call 155; refine (hp5 _).mono ?_; rintro e w' ⟨rfl, rfl⟩))
  go_ret
  exact ⟨rfl, (((Below.refl _ w).alloc (Nat.le_refl _) _).alloc (by simp) _).trans (b2.mono (by simp; omega))⟩

set_option maxHeartbeats 16000000 in
set_option maxRecDepth 100000 in
theorem event_equal (s n kd lg dt ar orn dy st be : Int) (ao ao' : Option Addr) (l l' c c' : Nat) (rows : List (Array Value)) (w : World) (hbig : rows.length ≤ 1000000) (h : Els w 5 (.slice ao l c) rows) (h' : Els w 5 (.slice ao' l' c') rows) (hf : ∀ r ∈ rows, HeadForm r) :
    Calls Tryz.prog 97 #[.agg #[.int .i64 s, .int .i64 n, .int .i64 kd, .int .i64 lg, .int .i64 dt, .slice ao l c, .slice none 0 0, .int .i64 ar, .int .i64 orn, .int .i64 dy, .slice none 0 0, .int .i64 st, .int .i64 be],
      .agg #[.int .i64 s, .int .i64 n, .int .i64 kd, .int .i64 lg, .int .i64 dt, .slice ao' l' c', .slice none 0 0, .int .i64 ar, .int .i64 orn, .int .i64 dy, .slice none 0 0, .int .i64 st, .int .i64 be]] w fun e w' => e = .returned (.bool true) ∧ Below w.heap.size w w' := by
  have hq := fun w' (b : Below w.heap.size w w') => event_same s n s n kd lg dt ar orn dy st be ao ao' l l' c c' rows w' hbig (h.step b) (h'.step b) hf
  clear h h' hf
  go_enter Tryz.func97, Tryz.ntmps97
  go_wp2_with (go_at_call 128; refine (hq _ (((Below.refl _ w).alloc (Nat.le_refl _) _).alloc (by simp) _)).mono ?_)
  intro e w2; first | (intro he b2; subst he) | rintro ⟨rfl, b2⟩
  go_wp2
  go_ret
  exact ⟨rfl, (((Below.refl _ w).alloc (Nat.le_refl _) _).alloc (by simp) _).trans (b2.mono (by simp; omega))⟩

/-- Two events that are equal: their heads are. -/
def EvEq (w : World) (r r' : Array Value) : Prop :=
  ∃ (s n kd lg dt ar orn dy st be : Int) (ao ao' : Option Addr) (l l' c c' : Nat) (rows : List (Array Value)), rows.length ≤ 1000000 ∧ Els w 5 (.slice ao l c) rows ∧ Els w 5 (.slice ao' l' c') rows ∧ (∀ x ∈ rows, HeadForm x) ∧
    r = #[.int .i64 s, .int .i64 n, .int .i64 kd, .int .i64 lg, .int .i64 dt, .slice ao l c, .slice none 0 0, .int .i64 ar, .int .i64 orn, .int .i64 dy, .slice none 0 0, .int .i64 st, .int .i64 be] ∧
    r' = #[.int .i64 s, .int .i64 n, .int .i64 kd, .int .i64 lg, .int .i64 dt, .slice ao' l' c', .slice none 0 0, .int .i64 ar, .int .i64 orn, .int .i64 dy, .slice none 0 0, .int .i64 st, .int .i64 be]
theorem EvEq.runs {w : World} {r r' : Array Value} (h : EvEq w r r') (w' : World) (b : Below w.heap.size w w') : Calls Tryz.prog 97 #[.agg r, .agg r'] w' fun e w'' => e = .returned (.bool true) ∧ Below w'.heap.size w' w'' := by
  obtain ⟨s, n, kd, lg, dt, ar, orn, dy, st, be, ao, ao', l, l', c, c', rows, h1, h2, h3, h4, rfl, rfl⟩ := h
  exact event_equal s n kd lg dt ar orn dy st be ao ao' l l' c c' rows w' h1 (h2.step b) (h3.step b) h4
theorem EvEq.step {w w' : World} {r r' : Array Value} (h : EvEq w r r') (b : Below w.heap.size w w') : EvEq w' r r' := by
  obtain ⟨s, n, kd, lg, dt, ar, orn, dy, st, be, ao, ao', l, l', c, c', rows, h1, h2, h3, h4, e1, e2⟩ := h
  exact ⟨s, n, kd, lg, dt, ar, orn, dy, st, be, ao, ao', l, l', c, c', rows, h1, h2.step b, h3.step b, h4, e1, e2⟩

set_option maxHeartbeats 16000000 in
set_option maxRecDepth 100000 in
theorem tuplet_equal (w : World) : Calls Tryz.prog 98 #[.slice none 0 0, .slice none 0 0] w fun e w' => e = .returned (.bool true) ∧ w' = w := by
  have hp := eqn129
  go_enter Tryz.func98, Tryz.ntmps98
  go_wp2_with (go_at_call 129; refine (hp _).mono ?_; rintro e w' ⟨rfl, rfl⟩)
  go_ret
  exact ⟨rfl, rfl⟩

/-- Two lists of elements, equal one by one. -/
def AllEq (R : World → Array Value → Array Value → Prop) (w : World) (rows rows' : List (Array Value)) : Prop :=
  rows'.length = rows.length ∧ rows.length ≤ 1000000 ∧ ∀ (j : Nat) (r r' : Array Value), rows[j]? = some r → rows'[j]? = some r' → R w r r'

set_option maxHeartbeats 16000000 in
set_option maxRecDepth 100000 in
theorem voice_equal (ev ev' : Value) (rows rows' : List (Array Value)) (w : World) (h : Els w 13 ev rows) (h' : Els w 13 ev' rows') (ha : AllEq EvEq w rows rows') :
    Calls Tryz.prog 62 #[.agg #[ev, .slice none 0 0], .agg #[ev', .slice none 0 0]] w fun e w' => e = .returned (.bool true) ∧ Below w.heap.size w w' := by
  have hq := fun w' (b : Below w.heap.size w w') => eqf96 ev ev' rows rows' w' ha.1 ha.2.1 (h.step b) (h'.step b) (fun j r r' hr hr' w'' b' => (ha.2.2 j r r' hr hr').runs w'' (b.trans (b'.mono b.size)))
  have ht := tuplet_equal
  obtain ⟨ao, c, e1⟩ := h.is
  obtain ⟨ao', c', e2⟩ := h'.is
  rw [e1, e2] at hq ⊢
  clear h h' e1 e2
  go_enter Tryz.func62, Tryz.ntmps62
  go_wp2_with (go_at_call 96; refine (hq _ (((Below.refl _ w).alloc (Nat.le_refl _) _).alloc (by simp) _)).mono ?_)
  intro e w2; first | (intro he b2; subst he) | rintro ⟨rfl, b2⟩
  have z0 := (b2.block w.heap.size (by simp; omega)).trans (heap_alloc2_old w _ _)
  have z1 := (b2.block (w.heap.size + 1) (by simp)).trans (heap_alloc2_new w _ _)
  have y0 : w2.cell? ⟨w.heap.size, 1, none⟩ = some (.slice none 0 0) := by rw [Lib.cell_of_heap z0]; rfl
  have y1 : w2.cell? ⟨w.heap.size + 1, 1, none⟩ = some (.slice none 0 0) := by rw [Lib.cell_of_heap z1]; rfl
  go_wp2_with (go_at_call 98; refine (ht _).mono ?_; rintro e w' ⟨rfl, rfl⟩)
  go_ret
  exact ⟨rfl, (((Below.refl _ w).alloc (Nat.le_refl _) _).alloc (by simp) _).trans (b2.mono (by simp; omega))⟩

/-- Two voices that are equal. -/
def VcEq (w : World) (r r' : Array Value) : Prop := ∃ (ev ev' : Value) (rows rows' : List (Array Value)), Els w 13 ev rows ∧ Els w 13 ev' rows' ∧ AllEq EvEq w rows rows' ∧ r = #[ev, .slice none 0 0] ∧ r' = #[ev', .slice none 0 0]
theorem AllEq.step {R : World → Array Value → Array Value → Prop} (hR : ∀ {w w' : World} {r r' : Array Value}, R w r r' → Below w.heap.size w w' → R w' r r') {w w' : World} {rows rows' : List (Array Value)} (h : AllEq R w rows rows') (b : Below w.heap.size w w') : AllEq R w' rows rows' :=
  ⟨h.1, h.2.1, fun j r r' hr hr' => hR (h.2.2 j r r' hr hr') b⟩
theorem VcEq.step {w w' : World} {r r' : Array Value} (h : VcEq w r r') (b : Below w.heap.size w w') : VcEq w' r r' := by
  obtain ⟨ev, ev', rows, rows', h1, h2, h3, e1, e2⟩ := h
  exact ⟨ev, ev', rows, rows', h1.step b, h2.step b, AllEq.step (R := EvEq) EvEq.step h3 b, e1, e2⟩
theorem VcEq.runs {w : World} {r r' : Array Value} (h : VcEq w r r') (w' : World) (b : Below w.heap.size w w') : Calls Tryz.prog 62 #[.agg r, .agg r'] w' fun e w'' => e = .returned (.bool true) ∧ Below w'.heap.size w' w'' := by
  obtain ⟨ev, ev', rows, rows', h1, h2, h3, rfl, rfl⟩ := h.step b
  exact voice_equal ev ev' rows rows' w' h1 h2 h3

set_option maxHeartbeats 16000000 in
set_option maxRecDepth 100000 in
theorem cell_equal (vs vs' : Value) (rows rows' : List (Array Value)) (w : World) (h : Els w 2 vs rows) (h' : Els w 2 vs' rows') (ha : AllEq VcEq w rows rows') :
    Calls Tryz.prog 46 #[.agg #[.slice none 0 0, vs], .agg #[.slice none 0 0, vs']] w fun e w' => e = .returned (.bool true) ∧ Below w.heap.size w w' := by
  have hq := fun w' (b : Below w.heap.size w w') => eqf61 vs vs' rows rows' w' ha.1 ha.2.1 (h.step b) (h'.step b) (fun j r r' hr hr' w'' b' => (ha.2.2 j r r' hr hr').runs w'' (b.trans (b'.mono b.size)))
  have ht := eqn60
  obtain ⟨ao, c, e1⟩ := h.is
  obtain ⟨ao', c', e2⟩ := h'.is
  rw [e1, e2] at hq ⊢
  clear h h' e1 e2
  go_enter Tryz.func46, Tryz.ntmps46
  go_wp2_with (first
    | (go_at_call 60; refine (ht _).mono ?_; rintro e w' ⟨rfl, rfl⟩)
    | (go_at_call 61; refine (hq _ (((Below.refl _ w).alloc (Nat.le_refl _) _).alloc (by simp) _)).mono ?_))
  intro e w2; first | (intro he b2; subst he) | rintro ⟨rfl, b2⟩
  go_wp2
  go_ret
  exact ⟨rfl, (((Below.refl _ w).alloc (Nat.le_refl _) _).alloc (by simp) _).trans (b2.mono (by simp; omega))⟩

/-- Two cells that are equal. -/
def ClEq (w : World) (r r' : Array Value) : Prop := ∃ (vs vs' : Value) (rows rows' : List (Array Value)), Els w 2 vs rows ∧ Els w 2 vs' rows' ∧ AllEq VcEq w rows rows' ∧ r = #[.slice none 0 0, vs] ∧ r' = #[.slice none 0 0, vs']
theorem ClEq.step {w w' : World} {r r' : Array Value} (h : ClEq w r r') (b : Below w.heap.size w w') : ClEq w' r r' := by
  obtain ⟨vs, vs', rows, rows', h1, h2, h3, e1, e2⟩ := h
  exact ⟨vs, vs', rows, rows', h1.step b, h2.step b, AllEq.step (R := VcEq) VcEq.step h3 b, e1, e2⟩
theorem ClEq.runs {w : World} {r r' : Array Value} (h : ClEq w r r') (w' : World) (b : Below w.heap.size w w') : Calls Tryz.prog 46 #[.agg r, .agg r'] w' fun e w'' => e = .returned (.bool true) ∧ Below w'.heap.size w' w'' := by
  obtain ⟨vs, vs', rows, rows', h1, h2, h3, rfl, rfl⟩ := h.step b
  exact cell_equal vs vs' rows rows' w' h1 h2 h3
end Go.Proofs.YtjnkppneilmpbaaGreatDoor
