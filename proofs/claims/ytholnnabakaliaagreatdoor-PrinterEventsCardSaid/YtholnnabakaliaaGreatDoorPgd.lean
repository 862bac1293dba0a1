/-
  A part of the proof that the law PrinterEvents (chapter 20) returns true for every event: walks of the program's functions, and runs of them in the kernel by the own evaluator.
-/
import Derived.Test.YtholnnabakaliaaGreatDoorLxh
import Derived.Laws.Rows
namespace Go.Proofs.YtholnnabakaliaaGreatDoor
open Go.RowKit

def Stp (rest : List UInt8) : Prop := Ends isInWord rest
def Blk (bl : List UInt8) : Prop := ∀ x ∈ bl, isBlank x.toNat = true
theorem blk_nil : Blk [] := by intro x h; cases h
theorem blk_one : Blk [32] := by intro x h; obtain rfl := List.mem_singleton.1 h; decide
theorem stp_nil : Stp [] := by intro x r h; cases h
theorem stp_cons {c : UInt8} (h : isInWord c.toNat = false) (r : List UInt8) : Stp (c :: r) := by intro x r' e; injection e with e1 _; rw [← e1]; exact h
theorem Stp.digit {rest : List UInt8} (h : Stp rest) : Ends isDigit rest := fun x r e => by
  have h2 := h x r e
  unfold isInWord at h2
  simp only [Bool.or_eq_false_iff] at h2
  exact h2.1.2
theorem stp_blanks (L : List (List UInt8)) {rest : List UInt8} (h : Stp rest) : Stp (blanks L ++ rest) := by
  cases L with
  | nil => exact h
  | cons x r =>
    have e : blanks (x :: r) ++ rest = 32 :: (x ++ (blanks r ++ rest)) := by simp [blanks]
    rw [e]; exact stp_cons (by decide) _
theorem good_app {rest : List UInt8} : ∀ {a b : List Piece}, GoodP (flat b ++ rest) a → GoodP rest b → GoodP rest (a ++ b)
  | [], _, _, h => h
  | p :: r, b, ha, hb => ⟨by
      have e : flat (r ++ b) ++ rest = flat r ++ (flat b ++ rest) := by rw [flat_app, List.append_assoc]
      show p.Ok (flat (r ++ b) ++ rest)
      rw [e]; exact ha.1, good_app ha.2 hb⟩
theorem good_cons {rest : List UInt8} {p : Piece} {b : List Piece} (h1 : p.Ok (flat b ++ rest)) (h2 : GoodP rest b) : GoodP rest (p :: b) := ⟨h1, h2⟩

theorem good_one {rest : List UInt8} {p : Piece} (h : p.Ok rest) : GoodP rest [p] := ⟨by rw [flat_nil, List.nil_append]; exact h, trivial⟩
def symGood (c : UInt8) : Bool := !isLetter c.toNat && !isDigit c.toNat && decide (c.toNat ≠ 34) && decide (0 ≤ Lib.indexByte symbols c) && !isBlank c.toNat
theorem sym_good {bl : List UInt8} {c : UInt8} (hb : Blk bl) (h : symGood c = true) (rest : List UInt8) : (symP bl c).Ok rest := by
  unfold symGood at h
  simp only [Bool.and_eq_true, Bool.not_eq_true', decide_eq_true_eq] at h
  obtain ⟨⟨⟨⟨h1, h2⟩, h3⟩, h4⟩, h5⟩ := h
  exact ⟨hb, .inr (.inr (.inr ⟨rfl, rfl, rfl, c, rfl, h1, h2, h3, h4, h5⟩))⟩
def wordGood (l : List UInt8) : Bool := (match l with | c :: _ => isLetter c.toNat | [] => false) && l.all (fun x => isInWord x.toNat) && decide (l.length ≤ 64)
theorem word_good {bl l : List UInt8} (hb : Blk bl) (h : wordGood l = true) {rest : List UInt8} (hr : Stp rest) : (wordP bl l).Ok rest := by
  unfold wordGood at h
  simp only [Bool.and_eq_true, decide_eq_true_eq] at h
  obtain ⟨⟨h1, h2⟩, h3⟩ := h
  refine ⟨hb, .inl ⟨rfl, rfl, rfl, ?_, fun x hx => List.all_eq_true.1 h2 x hx, h3, hr⟩⟩
  cases l with
  | nil => cases h1
  | cons c t => exact ⟨c, t, rfl, h1⟩
def numGood (l : List UInt8) (v : Int) : Bool := decide (Lib.atoi l = some v) && decide (l ≠ []) && l.all (fun x => isDigit x.toNat) && decide (l.length ≤ 15)
theorem num_good {bl l : List UInt8} {v : Int} (hb : Blk bl) (h : numGood l v = true) {rest : List UInt8} (hr : Stp rest) : (numP bl l v).Ok rest := by
  unfold numGood at h
  simp only [Bool.and_eq_true, decide_eq_true_eq] at h
  obtain ⟨⟨⟨h1, h2⟩, h3⟩, h4⟩ := h
  exact ⟨hb, .inr (.inl ⟨rfl, rfl, h1, h2, fun x hx => List.all_eq_true.1 h3 x hx, h4, hr.digit⟩)⟩
theorem str_good {bl b : List UInt8} (hb : Blk bl) (h : b.length ≤ 4096) (rest : List UInt8) : (strP bl b).Ok rest :=
  ⟨hb, .inr (.inr (.inl ⟨rfl, rfl, rfl, h⟩))⟩

def allP : List PitchV := ([0, 1, 2, 3, 4, 5, 6] : List Int).flatMap fun s => ([-2, -1, 0, 1, 2] : List Int).flatMap fun a => octs.map fun o => ⟨s, a, o⟩
theorem mem_allP {p : PitchV} (h : pitchE p = 0) : p ∈ allP := by
  have ha := al_cases h
  obtain ⟨o1, o9, s0, s6⟩ := oc_cases h
  obtain ⟨st, al, oc⟩ := p
  simp only at ha o1 o9 s0 s6
  unfold allP
  refine List.mem_flatMap.2 ⟨st, by simp; omega, List.mem_flatMap.2 ⟨al, by simp; omega, List.mem_map.2 ⟨oc, octs_mem o1 o9, rfl⟩⟩⟩
set_option maxRecDepth 100000 in
theorem words_good : allP.all (fun p => wordGood (wordOfP p)) = true := by decide +kernel
set_option maxRecDepth 100000 in
theorem octs_good : ([0, 1, 2, 3, 4, 5, 6, 7, 8, 9] : List Int).all (fun o => numGood (octL o) o) = true := by decide +kernel
set_option maxRecDepth 100000 in
theorem pows_good : ([0, 1, 2, 3, 4, 5, 6, 7, 8] : List Int).all (fun o => numGood (powL o) (2 ^ o.toNat)) = true := by decide +kernel

theorem stp_extra {p : PitchV} (h : pitchE p = 0) {rest : List UInt8} (hr : Stp rest) : Stp (flat (extraPs p) ++ rest) := by
  have ha := al_cases h
  unfold extraPs
  by_cases hm : p.oc = -1
  · rcases ha with ha | ha | ha | ha | ha <;> simp only [ha, hm, Int.reduceEq, Int.reduceNeg, Int.reduceLT, if_true, if_false, List.nil_append, List.cons_append] <;> exact stp_cons (by decide) _
  · rcases ha with ha | ha | ha | ha | ha <;> simp only [ha, hm, Int.reduceEq, Int.reduceNeg, Int.reduceLT, if_true, if_false, List.nil_append, List.cons_append] <;> first | exact hr | exact stp_cons (by decide) _
theorem good_extra {p : PitchV} (h : pitchE p = 0) {rest : List UInt8} (hr : Stp rest) : GoodP rest (extraPs p) := by
  have ha := al_cases h
  obtain ⟨o1, o9, _, _⟩ := oc_cases h
  have s35 : ∀ r, (symP [] 35).Ok r := sym_good blk_nil (by decide)
  have s45 : ∀ r, (symP [] 45).Ok r := sym_good blk_nil (by decide)
  have n1 : (numP [] [49] 1).Ok rest := num_good blk_nil (by decide) hr
  unfold extraPs
  by_cases hm : p.oc = -1
  · rcases ha with ha | ha | ha | ha | ha <;> simp only [ha, hm, Int.reduceEq, Int.reduceNeg, Int.reduceLT, if_true, if_false, List.nil_append, List.cons_append]
    all_goals (repeat' (first | exact trivial | exact n1 | apply good_cons | exact s35 _ | exact s45 _))
  · have n2 : (numP [] (octL p.oc) p.oc).Ok rest := num_good blk_nil (List.all_eq_true.1 octs_good p.oc (by simp; omega)) hr
    rcases ha with ha | ha | ha | ha | ha <;> simp only [ha, hm, Int.reduceEq, Int.reduceNeg, Int.reduceLT, if_true, if_false, List.nil_append, List.cons_append]
    all_goals (repeat' (first | exact trivial | exact n2 | apply good_cons | exact s35 _ | exact s45 _))
theorem good_pitch {p : PitchV} (h : pitchE p = 0) {bl rest : List UInt8} (hb : Blk bl) (hr : Stp rest) : GoodP rest (pitchPs bl p) :=
  good_cons (word_good hb (List.all_eq_true.1 words_good p (mem_allP h)) (stp_extra h hr)) (good_extra h hr)
theorem good_sym {bl : List UInt8} {c : UInt8} (hb : Blk bl) (h : symGood c = true) {rest : List UInt8} {b : List Piece} (h2 : GoodP rest b) : GoodP rest (symP bl c :: b) := good_cons (sym_good hb h _) h2
theorem stp_sym {c : UInt8} (h : isInWord c.toNat = false) (b : List Piece) (rest : List UInt8) : Stp (flat (symP [] c :: b) ++ rest) := by rw [flat_cons]; exact stp_cons h _
theorem stp_sp (p : Piece) (b : List Piece) (rest : List UInt8) (h : p.bl = [32]) : Stp (flat (p :: b) ++ rest) := by rw [flat_cons, h]; exact stp_cons (by decide) _
theorem good_nil (rest : List UInt8) : GoodP rest [] := trivial

theorem good_head {x : HeadV} (h : HeadOk x) {bl rest : List UInt8} (hb : Blk bl) (hr : Stp rest) : GoodP rest (headPs bl x) := by
  have hs := h.2
  unfold headPs
  rw [List.append_assoc]
  cases x.tied <;> rcases hs with hs | hs | hs <;> simp only [hs, Int.reduceEq, if_true, if_false, List.nil_append, List.append_nil, Bool.false_eq_true, List.cons_append]
  · exact good_pitch h.1 hb hr
  · exact good_app (good_pitch h.1 hb (stp_sym (by decide) _ _)) (good_sym blk_nil (by decide) (good_nil _))
  · exact good_app (good_pitch h.1 hb (stp_sym (by decide) _ _)) (good_sym blk_nil (by decide) (good_nil _))
  · exact good_app (good_pitch h.1 hb (stp_sym (by decide) _ _)) (good_sym blk_nil (by decide) (good_nil _))
  · exact good_app (good_pitch h.1 hb (stp_sym (by decide) _ _)) (good_sym blk_nil (by decide) (good_sym blk_nil (by decide) (good_nil _)))
  · exact good_app (good_pitch h.1 hb (stp_sym (by decide) _ _)) (good_sym blk_nil (by decide) (good_sym blk_nil (by decide) (good_nil _)))
theorem pow_good {k : Int} (h0 : 0 ≤ k) (h8 : k ≤ 8) : numGood (powL k) (2 ^ k.toNat) = true := List.all_eq_true.1 pows_good k (by simp; omega)
theorem good_grace {x : GraceV} (h : GraceOk x) {bl rest : List UInt8} (hb : Blk bl) (hr : Stp rest) : GoodP rest (gracePs bl x) := by
  obtain ⟨hp, h1, h6⟩ := h
  have hn : GoodP rest [symP [] 58, numP [] (powL x.lg) (2 ^ x.lg.toNat)] := good_sym blk_nil (by decide) (good_cons (num_good blk_nil (pow_good (by omega) (by omega)) hr) (good_nil _))
  unfold gracePs
  cases x.sl with
  | false =>
    simp only [Bool.false_eq_true, if_false]
    exact good_app (good_pitch hp hb (stp_sym (by decide) _ _)) hn
  | true =>
    simp only [if_true]
    exact good_app (good_sym hb (by decide) (good_pitch hp blk_nil (stp_sym (by decide) _ _))) hn
theorem stp_dots : ∀ (n : Nat) {rest : List UInt8}, Stp rest → Stp (flat (List.replicate n (symP [] 46)) ++ rest)
  | 0, _, h => h
  | n + 1, _, _ => by rw [List.replicate_succ]; exact stp_sym (by decide) _ _
theorem good_dots : ∀ (n : Nat) (rest : List UInt8), GoodP rest (List.replicate n (symP [] 46))
  | 0, _ => trivial
  | n + 1, rest => by rw [List.replicate_succ]; exact good_sym blk_nil (by decide) (good_dots n rest)
theorem good_val {lg dt : Int} (h : valueE lg dt = 0) {bl rest : List UInt8} (hb : Blk bl) (hr : Stp rest) : GoodP rest (valPs bl lg dt) := by
  have h' : ¬ (lg < -1 ∨ 8 < lg ∨ dt < 0 ∨ 3 < dt) := fun e => by unfold valueE at h; rw [if_pos e] at h; cases h
  unfold valPs
  refine good_cons ?_ (good_dots _ _)
  split
  · exact word_good hb (by decide) (stp_dots _ hr)
  · exact num_good hb (pow_good (by omega) (by omega)) (stp_dots _ hr)
theorem good_syll {x : SyllV} (h : x.tx.size ≤ 256) {bl rest : List UInt8} (hb : Blk bl) : GoodP rest (syllPs bl x) := by
  have hl : x.tx.data.toList.length ≤ 4096 := by rw [size_list]; omega
  unfold syllPs
  repeat' split
  · exact good_sym hb (by decide) (good_nil _)
  · exact good_cons (str_good hb hl _) (good_nil _)
  · exact good_cons (str_good hb hl _) (good_sym blk_nil (by decide) (good_nil _))
  · exact good_cons (str_good hb hl _) (good_sym blk_nil (by decide) (good_nil _))
theorem good_sep {α : Type} {f : List UInt8 → α → List Piece} {g : α → List UInt8} : ∀ (l : List α) (bl : List UInt8) {rest : List UInt8}, (∀ x ∈ l, ∀ bl, flat (f bl x) = bl ++ g x) → (∀ x ∈ l, ∀ bl rest, Blk bl → Stp rest → GoodP rest (f bl x)) → Blk bl → Stp rest → GoodP rest (sepPs f bl l)
  | [], _, _, _, _, _, _ => trivial
  | x :: r, bl, rest, hf, hg, hb, hr => by
    rw [sepPs]
    have hf' : ∀ y ∈ r, ∀ bl, flat (f bl y) = bl ++ g y := fun y hy => hf y (List.mem_cons_of_mem _ hy)
    refine good_app (hg x List.mem_cons_self bl _ hb ?_) (good_sep r [32] hf' (fun y hy => hg y (List.mem_cons_of_mem _ hy)) blk_one hr)
    rw [flat_sep r hf']
    exact stp_blanks _ hr

theorem bitsW_all (a : Int) {P : ByteArray → Prop} (l : List ByteArray) (hl : ∀ z ∈ l, P z) (h0 : P ⟨#[]⟩) : ∀ k, k ≤ l.length → ∀ y ∈ bitsW a l k, P y
  | 0, _, y, h => by simp [bitsW] at h
  | k + 1, hk, y, h => by
    rw [bitsW] at h
    rcases List.mem_append.1 h with h | h
    · exact bitsW_all a l hl h0 k (by omega) y h
    · split at h
      · obtain rfl := List.mem_singleton.1 h
        rw [List.getD_eq_getElem?_getD, List.getElem?_eq_getElem (by omega)]
        exact hl _ (List.getElem_mem _)
      · cases h
theorem optL_all {P : ByteArray → Prop} (W : List ByteArray) (hW : ∀ z ∈ W, P z) (n : Int) (h0 : 0 ≤ n) (hn : n ≤ W.length) : ∀ y ∈ optL W n, P y := by
  intro y h
  unfold optL at h
  split at h
  · cases h
  · rename_i hz
    obtain rfl := List.mem_singleton.1 h
    unfold wordAt
    rw [if_neg hz, List.getD_eq_getElem?_getD, List.getElem?_eq_getElem (by omega)]
    exact hW _ (List.getElem_mem _)
def WG (y : ByteArray) : Prop := wordGood y.data.toList = true ∨ y = ⟨#[]⟩
theorem wordsB_good {x : EvV} (h : EvOk x) : ∀ y ∈ wordsB x.ar x.orn x.dy x.stem x.beam, wordGood y = true := by
  intro y hy
  obtain ⟨z, hz, rfl⟩ := List.mem_map.1 hy
  unfold wordsO at hz
  simp only [List.mem_append] at hz
  have hb : ∀ k, k ≤ artsW.length → ∀ y ∈ bitsW x.ar artsW k, wordGood y.data.toList = true := by
    intro k
    induction k with
    | zero => intro _ y h; simp [bitsW] at h
    | succ k ih =>
      intro hk y h
      rw [bitsW] at h
      rcases List.mem_append.1 h with h | h
      · exact ih (by omega) y h
      · split at h
        · obtain rfl := List.mem_singleton.1 h
          rw [List.getD_eq_getElem?_getD, List.getElem?_eq_getElem (by omega)]
          exact (by decide +kernel : ∀ z ∈ artsW, wordGood z.data.toList = true) _ (List.getElem_mem _)
        · cases h
  rcases hz with (((h1 | h1) | h1) | h1) | h1
  · exact hb 5 (by decide) z h1
  · exact optL_all ornsW (P := fun z => wordGood z.data.toList = true) (by decide +kernel) x.orn h.o0 h.o4 z h1
  · exact optL_all dynsW (P := fun z => wordGood z.data.toList = true) (by decide +kernel) x.dy h.d0 h.d9 z h1
  · exact optL_all stemsW (P := fun z => wordGood z.data.toList = true) (by decide +kernel) x.stem h.s0 h.s2 z h1
  · exact optL_all beamsW (P := fun z => wordGood z.data.toList = true) (by decide +kernel) x.beam h.b0 h.b2 z h1
theorem stp_attr (l : List (List UInt8)) {b : List Piece} {rest : List UInt8} (h : Stp (flat b ++ rest)) : Stp (flat (attrPs l ++ b) ++ rest) := by
  unfold attrPs
  split
  · exact h
  · exact stp_sp _ _ _ rfl
theorem good_body {x : EvV} (h : EvOk x) {rest : List UInt8} (hr : Stp rest) : GoodP rest (bodyPs x) := by
  have hk := h.kd
  have hv := good_val h.value blk_nil hr
  have hc : GoodP rest (symP [] 58 :: valPs [] x.lg x.dt) := good_sym blk_nil (by decide) hv
  have hst : Stp (flat (symP [] 58 :: valPs [] x.lg x.dt) ++ rest) := stp_sym (by decide) _ _
  have hr4 : GoodP (flat (symP [] 58 :: valPs [] x.lg x.dt) ++ rest) [wordP [32] [114]] := good_one (word_good blk_one (by decide) hst)
  have hs4 : GoodP (flat (symP [] 58 :: valPs [] x.lg x.dt) ++ rest) [wordP [32] [115]] := good_one (word_good blk_one (by decide) hst)
  unfold bodyPs
  rcases hk with hk | hk | hk | hk
  · simp only [hk, Int.reduceEq, if_false]
    refine good_app ?_ hc
    unfold headsPs
    split
    · exact good_sep (g := headL) _ _ (fun y hy bl => flat_head (h.hok y hy) bl) (fun y hy bl r hb hr => good_head (h.hok y hy) hb hr) blk_one hst
    · exact good_sym blk_one (by decide) (good_app (good_sep (g := headL) _ _ (fun y hy bl => flat_head (h.hok y hy) bl) (fun y hy bl r hb hr => good_head (h.hok y hy) hb hr) blk_nil (stp_sym (by decide) _ _)) (good_sym blk_nil (by decide) (good_nil _)))
  · simp only [hk, Int.reduceEq, if_false, if_true]
    exact good_app hr4 hc
  · simp only [hk, if_true]
    exact good_cons (word_good blk_one (by decide) hr) (good_nil _)
  · simp only [hk, Int.reduceEq, if_false, if_true]
    exact good_app hs4 hc
theorem good_graces {l : List GraceV} (h : ∀ g ∈ l, GraceOk g) {rest : List UInt8} (_hr : Stp rest) : GoodP rest (gracesPs l) := by
  have h1 : GoodP rest [symP [] 41] := good_sym blk_nil (by decide) (good_nil _)
  have h2 : GoodP (flat [symP [] 41] ++ rest) (sepPs gracePs [] l) := good_sep (g := graceL) _ _ (fun y hy bl => flat_grace (h y hy) bl) (fun y hy bl r hb hr => good_grace (h y hy) hb hr) blk_nil (stp_sym (by decide) _ _)
  have h3 : GoodP rest (symP [32] 40 :: (sepPs gracePs [] l ++ [symP [] 41])) := good_sym blk_one (by decide) (good_app h2 h1)
  have h4 : Stp (flat (symP [32] 40 :: (sepPs gracePs [] l ++ [symP [] 41])) ++ rest) := stp_sp _ _ _ (by rfl)
  unfold gracesPs
  split
  · exact good_nil _
  · exact good_cons (word_good blk_one (by decide) h4) h3
theorem good_attrs {l : List (List UInt8)} (h : ∀ y ∈ l, wordGood y = true) {rest : List UInt8} (_hr : Stp rest) : GoodP rest (attrPs l) := by
  have h1 : GoodP rest [symP [] 93] := good_sym blk_nil (by decide) (good_nil _)
  have h2 : GoodP (flat [symP [] 93] ++ rest) (sepPs wPs [] l) := good_sep (g := id) _ _ (fun y _ bl => flat_w y bl) (fun y hy bl r hb hr => good_one (word_good hb (h y hy) hr)) blk_nil (stp_sym (by decide) _ _)
  unfold attrPs
  split
  · exact good_nil _
  · exact good_sym blk_one (by decide) (good_app h2 h1)
theorem good_ev {x : EvV} (h : EvOk x) : GoodP [] (evPs x) := by
  have hfl : flat (sepPs syllPs [32] x.lyr) = blanks (x.lyr.map syllL) := flat_sep (g := syllL) _ fun y _ bl => flat_syll y bl
  have hl : GoodP [] (sepPs syllPs [32] x.lyr) := good_sep (g := syllL) _ _ (fun y _ bl => flat_syll y bl) (fun y hy bl r hb _ => good_syll (h.lok y hy).1 hb) blk_one stp_nil
  have hsl : Stp (flat (sepPs syllPs [32] x.lyr) ++ []) := by rw [hfl]; exact stp_blanks _ stp_nil
  have ha : GoodP [] (attrPs (wordsB x.ar x.orn x.dy x.stem x.beam) ++ sepPs syllPs [32] x.lyr) := good_app (good_attrs (wordsB_good h) hsl) hl
  have hsa := stp_attr (wordsB x.ar x.orn x.dy x.stem x.beam) hsl
  have hb := good_app (good_body h hsa) ha
  have hsb : Stp (flat (bodyPs x ++ (attrPs (wordsB x.ar x.orn x.dy x.stem x.beam) ++ sepPs syllPs [32] x.lyr)) ++ []) := by
    rw [flat_app, flat_body h]; exact stp_cons (by decide) _
  exact good_app (good_graces h.gok hsb) hb
end Go.Proofs.YtholnnabakaliaaGreatDoor

namespace Go.Proofs.YtholnnabakaliaaGreatDoor
open Go.RowKit

theorem Tryz.sizeTok : (Tryz.prog.info? 100).map (·.size) = some 7 := by kernel_rfl

/-- Of what was there nothing has turned but the blocks bs. -/
structure Away (bs : List Nat) (w w' : World) : Prop where
  os : w'.os = w.os
  tape : w'.tape = w.tape
  output : w'.output = w.output
  size : w.heap.size ≤ w'.heap.size
  block : ∀ k, k < w.heap.size → k ∉ bs → w'.heap[k]? = w.heap[k]?

theorem Away.refl (bs : List Nat) (w : World) : Away bs w w := ⟨rfl, rfl, rfl, Nat.le_refl _, fun _ _ _ => rfl⟩
theorem Away.trans {bs : List Nat} {a b c : World} (h : Away bs a b) (k : Away bs b c) : Away bs a c :=
  ⟨k.os.trans h.os, k.tape.trans h.tape, k.output.trans h.output, Nat.le_trans h.size k.size, fun i hi hb => (k.block i (Nat.lt_of_lt_of_le hi h.size) hb).trans (h.block i hi hb)⟩
theorem Away.of_below {bs : List Nat} {w w' : World} (h : Below w.heap.size w w') : Away bs w w' := ⟨h.os, h.tape, h.output, h.size, fun k hk _ => h.block k hk⟩
theorem Away.below {w w' : World} (h : Away [] w w') : Below w.heap.size w w' := ⟨h.os, h.tape, h.output, h.size, fun k hk => h.block k hk (by simp)⟩
theorem Away.more {bs cs : List Nat} {w w' : World} (h : Away bs w w') (hs : ∀ k ∈ bs, k ∈ cs) : Away cs w w' := ⟨h.os, h.tape, h.output, h.size, fun k hk hb => h.block k hk fun hc => hb (hs k hc)⟩
theorem Away.drew {bs : List Nat} {a w : World} (h : Away bs a w) : Away bs a w.drew := ⟨h.os, h.tape, h.output, h.size, h.block⟩
theorem Away.alloc {bs : List Nat} {a w : World} (h : Away bs a w) (o : Obj) : Away bs a (w.alloc o) :=
  ⟨h.os, h.tape, h.output, Nat.le_trans h.size (by simp), fun k hk hb => (Below.heap_alloc _ _ _ (Nat.lt_of_lt_of_le hk h.size)).trans (h.block k hk hb)⟩
theorem Away.setCell {bs : List Nat} {a w : World} (h : Away bs a w) {p : Addr} (hp : p.block ∈ bs ∨ a.heap.size ≤ p.block) (u : Value) : Away bs a (w.setCell p u) :=
  ⟨h.os, h.tape, h.output, Nat.le_trans h.size (by simp [World.setCell]), fun k hk hb => (Below.heap_setCell _ _ _ _ (fun e => by
    rcases hp with hp | hp
    · exact hb (e ▸ hp)
    · omega)).trans (h.block k hk hb)⟩

/-- The parser at block Y, its map at M: at token 'pos' of 'toks'. -/
structure Prs (Y M : Nat) (tv : Value) (toks : List Tok) (pos : Nat) (line col e : Int) (free : Bool) (ls ln : Int) (es : Array MapEntry) (clk : Nat) (w : World) : Prop where
  blk : w.heap[Y]? = some (.cells #[tv, .int .i64 pos, .int .i64 line, .int .i64 col, .int .i64 e, .bool free, .int .i64 ls, .int .i64 ln, .map (some M)] 85 (0, 0))
  map : w.heap[M]? = some (.map es clk)
  row : e = 0 → w.ownsRow 0 100 7 tv toks.length (cellsOf toks)

section
variable {Y M : Nat} {tv : Value} {toks : List Tok} {pos : Nat} {line col e : Int} {free : Bool} {ls ln : Int} {es : Array MapEntry} {clk : Nat} {w : World}

theorem Prs.lt (h : Prs Y M tv toks pos line col e free ls ln es clk w) : Y < w.heap.size := (Array.getElem?_eq_some_iff.1 h.blk).1
theorem Prs.ltM (h : Prs Y M tv toks pos line col e free ls ln es clk w) : M < w.heap.size := (Array.getElem?_eq_some_iff.1 h.map).1
theorem Prs.ne (h : Prs Y M tv toks pos line col e free ls ln es clk w) : Y ≠ M := by
  rintro rfl
  have := h.blk.symm.trans h.map
  injection this with this
  cases this

theorem Prs.step (h : Prs Y M tv toks pos line col e free ls ln es clk w) {w' : World} (hb : Below w.heap.size w w') : Prs Y M tv toks pos line col e free ls ln es clk w' :=
  ⟨(hb.block Y h.lt).trans h.blk, (hb.block M h.ltM).trans h.map, fun he => own_step (h.row he) fun k hk => hb.block k ((h.row he).lt k hk).2⟩

theorem Prs.put (h : Prs Y M tv toks pos line col e free ls ln es clk w) (i : Nat) (u : Value) {pos' : Nat} {line' col' e' ls' ln' : Int} (he : e' = 0 → e = 0)
    (hu : (#[tv, .int .i64 pos, .int .i64 line, .int .i64 col, .int .i64 e, .bool free, .int .i64 ls, .int .i64 ln, .map (some M)] : Array Value).setIfInBounds i u = #[tv, .int .i64 pos', .int .i64 line', .int .i64 col', .int .i64 e', .bool free, .int .i64 ls', .int .i64 ln', .map (some M)]) :
    Prs Y M tv toks pos' line' col' e' free ls' ln' es clk (w.setCell ⟨Y, i, none⟩ u) := by
  refine ⟨by rw [Lib.heap_setCell_same h.blk, hu], (Below.heap_setCell _ _ _ _ (fun e => h.ne e.symm)).trans h.map, fun h0 => ?_⟩
  have hr := h.row (he h0)
  exact own_step hr fun k hk => Below.heap_setCell _ _ _ _ (fun e => own_ne hr h.blk (by intro cs fr hc; injection hc with _ h2 _; exact absurd h2 (by decide)) (by rw [hk, e]))

theorem Prs.c0 (h : Prs Y M tv toks pos line col e free ls ln es clk w) : w.cell? ⟨Y, 0, none⟩ = some tv := by rw [Lib.cell_of_heap h.blk]; rfl
theorem Prs.c1 (h : Prs Y M tv toks pos line col e free ls ln es clk w) : w.cell? ⟨Y, 1, none⟩ = some (.int .i64 pos) := by rw [Lib.cell_of_heap h.blk]; rfl
theorem Prs.c2 (h : Prs Y M tv toks pos line col e free ls ln es clk w) : w.cell? ⟨Y, 2, none⟩ = some (.int .i64 line) := by rw [Lib.cell_of_heap h.blk]; rfl
theorem Prs.c3 (h : Prs Y M tv toks pos line col e free ls ln es clk w) : w.cell? ⟨Y, 3, none⟩ = some (.int .i64 col) := by rw [Lib.cell_of_heap h.blk]; rfl
theorem Prs.c4 (h : Prs Y M tv toks pos line col e free ls ln es clk w) : w.cell? ⟨Y, 4, none⟩ = some (.int .i64 e) := by rw [Lib.cell_of_heap h.blk]; rfl
theorem Prs.c5 (h : Prs Y M tv toks pos line col e free ls ln es clk w) : w.cell? ⟨Y, 5, none⟩ = some (.bool free) := by rw [Lib.cell_of_heap h.blk]; rfl
theorem Prs.c6 (h : Prs Y M tv toks pos line col e free ls ln es clk w) : w.cell? ⟨Y, 6, none⟩ = some (.int .i64 ls) := by rw [Lib.cell_of_heap h.blk]; rfl
theorem Prs.c7 (h : Prs Y M tv toks pos line col e free ls ln es clk w) : w.cell? ⟨Y, 7, none⟩ = some (.int .i64 ln) := by rw [Lib.cell_of_heap h.blk]; rfl
theorem Prs.c8 (h : Prs Y M tv toks pos line col e free ls ln es clk w) : w.cell? ⟨Y, 8, none⟩ = some (.map (some M)) := by rw [Lib.cell_of_heap h.blk]; rfl
theorem Prs.fz (h : Prs Y M tv toks pos line col e free ls ln es clk w) (i : Nat) : w.frozen? ⟨Y, i, none⟩ = false := Lib.frozen_of_heap h.blk i

theorem cells_at : ∀ (l : List Tok) (i : Nat) (t : Tok) (j : Nat) (u : Value), l[i]? = some t → t.cells[j]? = some u → (cellsOf l)[i * 7 + j]? = some u
  | a :: l, 0, t, j, u, h, hj => by
    obtain rfl : a = t := by simpa using h
    have hlt : j < a.cells.length := (List.getElem?_eq_some_iff.1 hj).1
    simp only [cellsOf, List.flatMap_cons, Nat.zero_mul, Nat.zero_add]
    rw [List.getElem?_append_left hlt]; exact hj
  | a :: l, i + 1, t, j, u, h, hj => by
    have h' : l[i]? = some t := by simpa using h
    have := cells_at l i t j u h' hj
    have e7 : a.cells.length = 7 := rfl
    simp only [cellsOf, List.flatMap_cons] at this ⊢
    rw [List.getElem?_append_right (by rw [e7]; omega), e7]
    rw [show (i + 1) * 7 + j - 7 = i * 7 + j by omega]; exact this
  | [], i, t, j, u, h, _ => by simp at h

/-- Where the tokens' cells lie. -/
theorem Prs.tok (h : Prs Y M tv toks pos line col 0 free ls ln es clk w) {t : Tok} (ht : toks[pos]? = some t) :
    ∃ G cap, tv = .slice (some ⟨G, 0, none⟩) toks.length cap ∧ ∀ j u, t.cells[j]? = some u → w.cell? ⟨G, pos * 7 + j, none⟩ = some u := by
  have hr := h.row rfl
  have hp : pos < toks.length := (List.getElem?_eq_some_iff.1 ht).1
  obtain ⟨G, cap, rfl, _, _⟩ := hr.form (by omega)
  refine ⟨G, cap, rfl, fun j u hj => ?_⟩
  have := hr.cells (g := G) rfl (pos * 7 + j) u (cells_at _ _ _ _ _ ht hj)
  have hadd : (⟨G, 0, none⟩ : Addr).add (pos * 7 + j) = ⟨G, pos * 7 + j, none⟩ := by unfold Addr.add; split <;> simp_all
  rwa [hadd] at this

set_option maxHeartbeats 4000000 in
set_option maxRecDepth 100000 in
theorem peek_ok (h : Prs Y M tv toks pos line col 0 free ls ln es clk w) {t : Tok} (ht : toks[pos]? = some t) :
    Calls Tryz.prog 56 #[.pointer (some ⟨Y, 0, none⟩)] w fun r w' => r = .returned (.agg #[.int .i64 t.kind, .string t.text, .int .i64 t.value, .string t.bytes, .int .i64 t.line, .int .i64 t.col, .bool t.joined]) ∧ Below w.heap.size w w' := by
  obtain ⟨G, cap, rfl, hc⟩ := h.tok ht
  have hp : pos < toks.length := (List.getElem?_eq_some_iff.1 ht).1
  have c0 := h.c0
  have c1 := h.c1
  have c4 := h.c4
  have t0 : w.cell? ⟨G, pos * 7, none⟩ = some (.int .i64 t.kind) := hc 0 _ rfl
  have t1 := hc 1 _ rfl
  have t2 := hc 2 _ rfl
  have t3 := hc 3 _ rfl
  have t4 := hc 4 _ rfl
  have t5 := hc 5 _ rfl
  have t6 := hc 6 _ rfl
  have hp0 : (0 : Int) ≤ (pos : Int) := by omega
  have hp1 : (pos : Int) < (toks.length : Int) := by omega
  have n0 := World.new_ne w _ c0
  have n1 := World.new_ne w _ t0
  have l0 := World.block_lt_of_cell? w _ c0
  have l1 := World.block_lt_of_cell? w _ t0
  simp only at l0 l1
  clear h hc ht
  go_enter Tryz.func56, Tryz.ntmps56
  go_wp2
  go_region_held3 (fun w' => w'.cell? ⟨Y, 0, none⟩ = some (.slice (some ⟨G, 0, none⟩) toks.length cap) ∧ w'.cell? ⟨Y, 1, none⟩ = some (.int .i64 pos) ∧
      w'.cell? ⟨G, pos * 7, none⟩ = some (.int .i64 t.kind) ∧ w'.cell? ⟨G, pos * 7 + 1, none⟩ = some (.string t.text) ∧ w'.cell? ⟨G, pos * 7 + 2, none⟩ = some (.int .i64 t.value) ∧
      w'.cell? ⟨G, pos * 7 + 3, none⟩ = some (.string t.bytes) ∧ w'.cell? ⟨G, pos * 7 + 4, none⟩ = some (.int .i64 t.line) ∧ w'.cell? ⟨G, pos * 7 + 5, none⟩ = some (.int .i64 t.col) ∧ w'.cell? ⟨G, pos * 7 + 6, none⟩ = some (.bool t.joined)) (go_keep) (fail)
  go_wp2
  refine bodyPost_ret (results_cell_row rfl _ _ w.heap.size 100 _ (0, 0) _ rfl (heap_alloc_new w _) Tryz.underlying100 rfl Tryz.sizeTok) rfl ?_
  exact ⟨rfl, ((Below.refl _ w).alloc (Nat.le_refl _) _).drew⟩

set_option maxHeartbeats 4000000 in
set_option maxRecDepth 100000 in
theorem peek_err (h : Prs Y M tv toks pos line col e free ls ln es clk w) (he : e ≠ 0) :
    Calls Tryz.prog 56 #[.pointer (some ⟨Y, 0, none⟩)] w fun r w' => r = .returned (.agg #[.int .i64 (-1), .string ByteArray.empty, .int .i64 0, .string ByteArray.empty, .int .i64 0, .int .i64 0, .bool false]) ∧ Below w.heap.size w w' := by
  have c4 := h.c4
  have n0 := World.new_ne w _ c4
  have l0 := h.lt
  clear h
  go_enter Tryz.func56, Tryz.ntmps56
  go_wp2
  refine bodyPost_ret (results_cell_row rfl _ _ w.heap.size 100 _ (0, 0) _ rfl (heap_alloc_new w _) Tryz.underlying100 rfl Tryz.sizeTok) rfl ?_
  exact ⟨rfl, ((Below.refl _ w).alloc (Nat.le_refl _) _)⟩
end
end Go.Proofs.YtholnnabakaliaaGreatDoor

namespace Go.Proofs.YtholnnabakaliaaGreatDoor
open Go.RowKit

def IsTok (t : Tok) (tx : ByteArray) : Bool := (decide (t.kind = 1) || decide (t.kind = 4)) && decide (t.text = tx)

theorem toList_ne {a b : ByteArray} (h : ¬ a = b) : ¬ a.toList = b.toList := by
  intro e
  rw [Go.ByteArray.toList_eq, Go.ByteArray.toList_eq] at e
  exact h (ByteArray.ext (Array.ext' e))

section
variable {Y M : Nat} {tv : Value} {toks : List Tok} {pos : Nat} {line col e : Int} {free : Bool} {ls ln : Int} {es : Array MapEntry} {clk : Nat} {w : World} {t : Tok}

set_option maxHeartbeats 8000000 in
set_option maxRecDepth 100000 in
theorem is_ok (h : Prs Y M tv toks pos line col 0 free ls ln es clk w) (ht : toks[pos]? = some t) (tx : ByteArray) {b : Bool} (hb : IsTok t tx = b) :
    Calls Tryz.prog 72 #[.pointer (some ⟨Y, 0, none⟩), .string tx] w fun r w' => r = .returned (.bool b) ∧ Below w.heap.size w w' := by
  have hp := peek_ok h ht
  obtain ⟨kd, text, v, bt, lin, cl, j⟩ := t
  simp only [IsTok] at hb hp
  clear h ht
  by_cases h1 : kd = 1
  · subst h1
    by_cases hx : text = tx
    · subst hx
      go_enter Tryz.func72, Tryz.ntmps72
      go_wp2_with (go_at_call 56; refine hp.mono ?_)
      intro r w1; first | (intro he b1; subst he) | rintro ⟨rfl, b1⟩
      go_wp2
      go_ret
      refine ⟨?_, b1.alloc b1.size _⟩
      first | (rw [← hb]; simp; done) | simp_all
    · try have hx' := toList_ne hx
      go_enter Tryz.func72, Tryz.ntmps72
      go_wp2_with (go_at_call 56; refine hp.mono ?_)
      intro r w1; first | (intro he b1; subst he) | rintro ⟨rfl, b1⟩
      go_wp2
      go_ret
      refine ⟨?_, b1.alloc b1.size _⟩
      first | (rw [← hb]; simp; done) | simp_all
  · by_cases h4 : kd = 4
    · subst h4
      by_cases hx : text = tx
      · subst hx
        go_enter Tryz.func72, Tryz.ntmps72
        go_wp2_with (go_at_call 56; refine hp.mono ?_)
        intro r w1; first | (intro he b1; subst he) | rintro ⟨rfl, b1⟩
        go_wp2
        go_ret
        refine ⟨?_, b1.alloc b1.size _⟩
        first | (rw [← hb]; simp; done) | simp_all
      · have hx' := toList_ne hx
        go_enter Tryz.func72, Tryz.ntmps72
        go_wp2_with (go_at_call 56; refine hp.mono ?_)
        intro r w1; first | (intro he b1; subst he) | rintro ⟨rfl, b1⟩
        go_wp2
        go_ret
        refine ⟨?_, b1.alloc b1.size _⟩
        first | (rw [← hb]; simp; done) | simp_all
    · try have hx' := toList_ne hx
      go_enter Tryz.func72, Tryz.ntmps72
      go_wp2_with (go_at_call 56; refine hp.mono ?_)
      intro r w1; first | (intro he b1; subst he) | rintro ⟨rfl, b1⟩
      go_wp2
      go_ret
      refine ⟨?_, b1.alloc b1.size _⟩
      first | (rw [← hb]; simp; done) | simp_all

set_option maxHeartbeats 8000000 in
set_option maxRecDepth 100000 in
theorem is_err (h : Prs Y M tv toks pos line col e free ls ln es clk w) (he : e ≠ 0) (tx : ByteArray) :
    Calls Tryz.prog 72 #[.pointer (some ⟨Y, 0, none⟩), .string tx] w fun r w' => r = .returned (.bool false) ∧ Below w.heap.size w w' := by
  have hp := peek_err h he
  clear h
  go_enter Tryz.func72, Tryz.ntmps72
  go_wp2_with (go_at_call 56; refine hp.mono ?_)
  intro r w1; first | (intro he b1; subst he) | rintro ⟨rfl, b1⟩
  go_wp2
  go_ret
  exact ⟨rfl, b1.alloc b1.size _⟩

theorem Prs.next (h : Prs Y M tv toks pos line col e free ls ln es clk w) : Prs Y M tv toks (pos + 1) line col e free ls ln es clk (w.setCell ⟨Y, 1, none⟩ (.int .i64 ((pos : Int) + 1))) :=
  h.put 1 _ (fun h => h) (by rw [show ((pos + 1 : Nat) : Int) = (pos : Int) + 1 by omega]; rfl)

set_option maxHeartbeats 8000000 in
set_option maxRecDepth 100000 in
theorem accept_yes (h : Prs Y M tv toks pos line col 0 free ls ln es clk w) (ht : toks[pos]? = some t) (tx : ByteArray) (hb : IsTok t tx = true) (hpos : pos ≤ 1048576) :
    Calls Tryz.prog 47 #[.pointer (some ⟨Y, 0, none⟩), .string tx] w fun r w' => r = .returned (.bool true) ∧ Prs Y M tv toks (pos + 1) line col 0 free ls ln es clk w' ∧ Away [Y] w w' := by
  have hi := is_ok h ht tx hb
  have hst := fun w' (b : Below w.heap.size w w') => h.step b
  clear h ht hb
  have hw : IntKind.i64.wrap ((pos : Int) + 1) = (pos : Int) + 1 := IntWalk.i64_in _ (by omega)
  go_enter Tryz.func47, Tryz.ntmps47
  go_wp2_with (go_at_call 72; refine hi.mono ?_)
  intro r w1; first | (intro he b1; subst he) | rintro ⟨rfl, b1⟩
  have hS := hst _ b1
  have c1 := hS.c1
  have f1 := hS.fz 1
  have hN := hS.next
  clear hS hst hi
  go_wp2
  go_ret
  exact ⟨rfl, hN, (Away.of_below b1).setCell (.inl (by simp)) _⟩

set_option maxHeartbeats 8000000 in
set_option maxRecDepth 100000 in
theorem accept_of (tx : ByteArray) (hi : Calls Tryz.prog 72 #[.pointer (some ⟨Y, 0, none⟩), .string tx] w fun r w' => r = .returned (.bool false) ∧ Below w.heap.size w w') :
    Calls Tryz.prog 47 #[.pointer (some ⟨Y, 0, none⟩), .string tx] w fun r w' => r = .returned (.bool false) ∧ Below w.heap.size w w' := by
  go_enter Tryz.func47, Tryz.ntmps47
  go_wp2_with (go_at_call 72; refine hi.mono ?_)
  intro r w1; first | (intro he b1; subst he) | rintro ⟨rfl, b1⟩
  go_wp2
  go_ret
  exact ⟨rfl, b1⟩

theorem accept_no (h : Prs Y M tv toks pos line col 0 free ls ln es clk w) (ht : toks[pos]? = some t) (tx : ByteArray) (hb : IsTok t tx = false) :
    Calls Tryz.prog 47 #[.pointer (some ⟨Y, 0, none⟩), .string tx] w fun r w' => r = .returned (.bool false) ∧ Below w.heap.size w w' := accept_of tx (is_ok h ht tx hb)
theorem accept_err (h : Prs Y M tv toks pos line col e free ls ln es clk w) (he : e ≠ 0) (tx : ByteArray) :
    Calls Tryz.prog 47 #[.pointer (some ⟨Y, 0, none⟩), .string tx] w fun r w' => r = .returned (.bool false) ∧ Below w.heap.size w w' := accept_of tx (is_err h he tx)

set_option maxHeartbeats 8000000 in
set_option maxRecDepth 100000 in
theorem fail_err (h : Prs Y M tv toks pos line col e free ls ln es clk w) (he : e ≠ 0) (c : Int) :
    Calls Tryz.prog 57 #[.pointer (some ⟨Y, 0, none⟩), .int .i64 c] w fun r w' => r = .returned (.tuple #[]) ∧ Below w.heap.size w w' := by
  have c4 := h.c4
  clear h
  go_enter Tryz.func57, Tryz.ntmps57
  go_wp2
  go_end0
  exact ⟨rfl, Below.refl _ _⟩

set_option maxHeartbeats 8000000 in
set_option maxRecDepth 100000 in
theorem expect_yes (h : Prs Y M tv toks pos line col 0 free ls ln es clk w) (ht : toks[pos]? = some t) (tx : ByteArray) (hb : IsTok t tx = true) (hpos : pos ≤ 1048576) :
    Calls Tryz.prog 48 #[.pointer (some ⟨Y, 0, none⟩), .string tx] w fun r w' => r = .returned (.tuple #[]) ∧ Prs Y M tv toks (pos + 1) line col 0 free ls ln es clk w' ∧ Away [Y] w w' := by
  have hi := accept_yes h ht tx hb hpos
  clear h ht hb
  go_enter Tryz.func48, Tryz.ntmps48
  go_wp2_with (go_at_call 47; refine hi.mono ?_)
  intro r w1; first | (intro he hS b1; subst he) | rintro ⟨rfl, hS, b1⟩
  go_wp2
  go_end0
  exact ⟨rfl, hS, b1⟩

set_option maxHeartbeats 8000000 in
set_option maxRecDepth 100000 in
theorem expect_err (h : Prs Y M tv toks pos line col e free ls ln es clk w) (he : e ≠ 0) (tx : ByteArray) :
    Calls Tryz.prog 48 #[.pointer (some ⟨Y, 0, none⟩), .string tx] w fun r w' => r = .returned (.tuple #[]) ∧ Below w.heap.size w w' := by
  have hi := accept_err h he tx
  have hf := fun w' (b : Below w.heap.size w w') => fail_err (h.step b) he 13
  clear h
  go_enter Tryz.func48, Tryz.ntmps48
  go_wp2_with (go_at_call 47; refine hi.mono ?_)
  intro r w1; first | (intro he b1; subst he) | rintro ⟨rfl, b1⟩
  have hf1 := hf _ b1
  go_wp2_with (go_at_call 57; refine hf1.mono ?_)
  intro r w2; first | (intro he b2; subst he) | rintro ⟨rfl, b2⟩
  go_wp2
  go_end0
  exact ⟨rfl, b1.trans (b2.mono b1.size)⟩
end
end Go.Proofs.YtholnnabakaliaaGreatDoor

namespace Go.Proofs.YtholnnabakaliaaGreatDoor
open Go.RowKit

section
variable {Y M : Nat} {tv : Value} {toks : List Tok} {pos : Nat} {line col e : Int} {free : Bool} {ls ln : Int} {es : Array MapEntry} {clk : Nat} {w : World} {t : Tok}

theorem Prs.failed (h : Prs Y M tv toks pos line col e free ls ln es clk w) (l c x : Int) (hx : x ≠ 0) :
    Prs Y M tv toks pos l c x free ls ln es clk (((w.setCell ⟨Y, 4, none⟩ (.int .i64 x)).setCell ⟨Y, 2, none⟩ (.int .i64 l)).setCell ⟨Y, 3, none⟩ (.int .i64 c)) :=
  ((h.put (e' := x) (pos' := pos) (line' := line) (col' := col) (ls' := ls) (ln' := ln) 4 _ (fun h0 => absurd h0 hx) rfl).put (e' := x) (pos' := pos) (line' := l) (col' := col) (ls' := ls) (ln' := ln) 2 _ (fun h => h) rfl).put (e' := x) (pos' := pos) (line' := l) (col' := c) (ls' := ls) (ln' := ln) 3 _ (fun h => h) rfl

set_option maxHeartbeats 8000000 in
set_option maxRecDepth 100000 in
theorem fail_ok (h : Prs Y M tv toks pos line col 0 free ls ln es clk w) (ht : toks[pos]? = some t) (c : Int) (hc : c ≠ 0) :
    Calls Tryz.prog 57 #[.pointer (some ⟨Y, 0, none⟩), .int .i64 c] w fun r w' => r = .returned (.tuple #[]) ∧ Prs Y M tv toks pos t.line t.col c free ls ln es clk w' ∧ Away [Y] w w' := by
  have hp := peek_ok h ht
  have hst := fun w' (b : Below w.heap.size w w') => h.step b
  have c4 := h.c4
  clear h ht
  go_enter Tryz.func57, Tryz.ntmps57
  go_wp2_with (go_at_call 56; refine hp.mono ?_)
  intro r w1; first | (intro he b1; subst he) | rintro ⟨rfl, b1⟩
  go_wp2
  have hT := heap_alloc_new w1 (.cells #[.int .i64 t.kind, .string t.text, .int .i64 t.value, .string t.bytes, .int .i64 t.line, .int .i64 t.col, .bool t.joined] 100)
  have b2 := b1.alloc b1.size (.cells #[.int .i64 t.kind, .string t.text, .int .i64 t.value, .string t.bytes, .int .i64 t.line, .int .i64 t.col, .bool t.joined] 100)
  generalize w1.alloc (.cells #[.int .i64 t.kind, .string t.text, .int .i64 t.value, .string t.bytes, .int .i64 t.line, .int .i64 t.col, .bool t.joined] 100) = w2 at hT b2 ⊢
  generalize w1.heap.size = T at hT ⊢
  have hS := hst _ b2
  have d4 := hS.c4
  have d2 := hS.c2
  have d3 := hS.c3
  have f4 := hS.fz 4
  have f2 := hS.fz 2
  have f3 := hS.fz 3
  have k4 : w2.cell? ⟨T, 4, none⟩ = some (.int .i64 t.line) := by rw [Lib.cell_of_heap hT]; rfl
  have k5 : w2.cell? ⟨T, 5, none⟩ = some (.int .i64 t.col) := by rw [Lib.cell_of_heap hT]; rfl
  have hTY : T ≠ Y := by
    rintro rfl
    rw [hS.blk] at hT
    injection hT with hT
    injection hT with _ h2 _
    exact absurd h2 (by decide)
  have hfin := (hS.step (Below.refl _ _).drew).failed t.line t.col c hc
  clear hS hst c4 hp hT
  go_region
  all_goals go_end0
  all_goals exact ⟨rfl, hfin, (((Away.of_below b2).drew.setCell (.inl (by simp)) _).setCell (.inl (by simp)) _).setCell (.inl (by simp)) _⟩

set_option maxHeartbeats 8000000 in
set_option maxRecDepth 100000 in
theorem str_ok (h : Prs Y M tv toks pos line col 0 free ls ln es clk w) (ht : toks[pos]? = some t) (hk : t.kind = 3) (hpos : pos ≤ 1048576) :
    Calls Tryz.prog 84 #[.pointer (some ⟨Y, 0, none⟩)] w fun r w' => r = .returned (.string t.bytes) ∧ Prs Y M tv toks (pos + 1) line col 0 free ls ln es clk w' ∧ Away [Y] w w' := by
  have hp := peek_ok h ht
  have hst := fun w' (b : Below w.heap.size w w') => h.step b
  clear h ht
  rw [hk] at hp
  have hw : IntKind.i64.wrap ((pos : Int) + 1) = (pos : Int) + 1 := IntWalk.i64_in _ (by omega)
  go_enter Tryz.func84, Tryz.ntmps84
  go_wp2_with (go_at_call 56; refine hp.mono ?_)
  intro r w1; first | (intro he b1; subst he) | rintro ⟨rfl, b1⟩
  have hS1 := hst _ b1
  have d1 := hS1.c1
  have l1 := hS1.lt
  have n1 := World.new_ne w1 _ d1
  have f1 := hS1.fz 1
  have hN := hS1.next.step ((Below.refl _ _).alloc (Nat.le_refl _) (.cells #[.int .i64 3, .string t.text, .int .i64 t.value, .string t.bytes, .int .i64 t.line, .int .i64 t.col, .bool t.joined] 100))
  clear hst hp hS1
  go_wp2
  go_ret
  exact ⟨rfl, hN, ((Away.of_below b1).setCell (.inl (by simp)) _).alloc _⟩

set_option maxHeartbeats 8000000 in
set_option maxRecDepth 100000 in
theorem str_err (h : Prs Y M tv toks pos line col e free ls ln es clk w) (he : e ≠ 0) :
    Calls Tryz.prog 84 #[.pointer (some ⟨Y, 0, none⟩)] w fun r w' => r = .returned (.string ByteArray.empty) ∧ Below w.heap.size w w' := by
  have hp := peek_err h he
  have hf := fun w' (b : Below w.heap.size w w') => fail_err (h.step b) he 13
  clear h
  go_enter Tryz.func84, Tryz.ntmps84
  go_wp2_with (go_at_call 56; refine hp.mono ?_)
  intro r w1; first | (intro he b1; subst he) | rintro ⟨rfl, b1⟩
  have b2 := b1.alloc b1.size (.cells #[.int .i64 (-1), .string ByteArray.empty, .int .i64 0, .string ByteArray.empty, .int .i64 0, .int .i64 0, .bool false] 100)
  have hf1 := hf _ b2
  go_wp2_with (go_at_call 57; refine hf1.mono ?_)
  intro r w3; first | (intro he b3; subst he) | rintro ⟨rfl, b3⟩
  go_wp2
  go_ret
  exact ⟨rfl, b2.trans (b3.mono b2.size)⟩

set_option maxHeartbeats 8000000 in
set_option maxRecDepth 100000 in
theorem number_ok (h : Prs Y M tv toks pos line col 0 free ls ln es clk w) (ht : toks[pos]? = some t) (hk : t.kind = 2) (hpos : pos ≤ 1048576) (lo hi : Int) (hlo : lo ≤ t.value) (hhi : t.value ≤ hi) :
    Calls Tryz.prog 105 #[.pointer (some ⟨Y, 0, none⟩), .int .i64 lo, .int .i64 hi] w fun r w' => r = .returned (.int .i64 t.value) ∧ Prs Y M tv toks (pos + 1) line col 0 free ls ln es clk w' ∧ Away [Y] w w' := by
  have hp := peek_ok h ht
  have hst := fun w' (b : Below w.heap.size w w') => h.step b
  clear h ht
  obtain ⟨kd, text, v, bt, lin, cl, j⟩ := t
  simp only at hk hlo hhi hp ⊢
  subst hk
  have hw : IntKind.i64.wrap ((pos : Int) + 1) = (pos : Int) + 1 := IntWalk.i64_in _ (by omega)
  have hl1 : decide (v < lo) = false := decide_eq_false (by omega)
  have hl2 : decide (hi < v) = false := decide_eq_false (by omega)
  go_enter Tryz.func105, Tryz.ntmps105
  go_wp2_with (go_at_call 56; refine hp.mono ?_)
  intro r w1; first | (intro he b1; subst he) | rintro ⟨rfl, b1⟩
  have hS1 := hst _ b1
  have d1 := hS1.c1
  have l1 := hS1.lt
  have n1 := World.new_ne w1 _ d1
  have f1 := hS1.fz 1
  have hN := hS1.next.step ((Below.refl _ _).alloc (Nat.le_refl _) (.cells #[.int .i64 2, .string text, .int .i64 v, .string bt, .int .i64 lin, .int .i64 cl, .bool j] 100))
  clear hst hp hS1
  go_wp2
  go_ret
  exact ⟨rfl, hN, ((Away.of_below b1).setCell (.inl (by simp)) _).alloc _⟩

set_option maxHeartbeats 8000000 in
set_option maxRecDepth 100000 in
theorem number_range (h : Prs Y M tv toks pos line col 0 free ls ln es clk w) (ht : toks[pos]? = some t) (hk : t.kind = 2) (lo hi : Int) (hr : t.value < lo ∨ hi < t.value) :
    Calls Tryz.prog 105 #[.pointer (some ⟨Y, 0, none⟩), .int .i64 lo, .int .i64 hi] w fun r w' => r = .returned (.int .i64 0) ∧ Prs Y M tv toks pos t.line t.col 2 free ls ln es clk w' ∧ Away [Y] w w' := by
  have hp := peek_ok h ht
  have hf := fun w' (b : Below w.heap.size w w') => fail_ok (h.step b) ht 2 (by decide)
  clear h ht
  obtain ⟨kd, text, v, bt, lin, cl, j⟩ := t
  simp only at hk hr hp hf ⊢
  subst hk
  by_cases hl : v < lo
  · go_enter Tryz.func105, Tryz.ntmps105
    go_wp2_with (go_at_call 56; refine hp.mono ?_)
    intro r w1; first | (intro he b1; subst he) | rintro ⟨rfl, b1⟩
    have b2 := b1.alloc b1.size (.cells #[.int .i64 2, .string text, .int .i64 v, .string bt, .int .i64 lin, .int .i64 cl, .bool j] 100)
    have hf1 := hf _ b2
    go_wp2_with (go_at_call 57; refine hf1.mono ?_)
    intro r w3; first | (intro he hS b3; subst he) | rintro ⟨rfl, hS, b3⟩
    go_wp2
    go_ret
    exact ⟨rfl, hS, (Away.of_below b2).trans b3⟩
  · have hl1 : decide (v < lo) = false := decide_eq_false hl
    have hl2 : hi < v := by omega
    go_enter Tryz.func105, Tryz.ntmps105
    go_wp2_with (go_at_call 56; refine hp.mono ?_)
    intro r w1; first | (intro he b1; subst he) | rintro ⟨rfl, b1⟩
    have b2 := b1.alloc b1.size (.cells #[.int .i64 2, .string text, .int .i64 v, .string bt, .int .i64 lin, .int .i64 cl, .bool j] 100)
    have hf1 := hf _ b2
    go_wp2_with (go_at_call 57; refine hf1.mono ?_)
    intro r w3; first | (intro he hS b3; subst he) | rintro ⟨rfl, hS, b3⟩
    go_wp2
    go_ret
    exact ⟨rfl, hS, (Away.of_below b2).trans b3⟩

set_option maxHeartbeats 8000000 in
set_option maxRecDepth 100000 in
theorem number_err (h : Prs Y M tv toks pos line col e free ls ln es clk w) (he : e ≠ 0) (lo hi : Int) :
    Calls Tryz.prog 105 #[.pointer (some ⟨Y, 0, none⟩), .int .i64 lo, .int .i64 hi] w fun r w' => r = .returned (.int .i64 0) ∧ Below w.heap.size w w' := by
  have hp := peek_err h he
  have hf := fun w' (b : Below w.heap.size w w') => fail_err (h.step b) he 13
  clear h
  go_enter Tryz.func105, Tryz.ntmps105
  go_wp2_with (go_at_call 56; refine hp.mono ?_)
  intro r w1; first | (intro he b1; subst he) | rintro ⟨rfl, b1⟩
  have b2 := b1.alloc b1.size (.cells #[.int .i64 (-1), .string ByteArray.empty, .int .i64 0, .string ByteArray.empty, .int .i64 0, .int .i64 0, .bool false] 100)
  have hf1 := hf _ b2
  go_wp2_with (go_at_call 57; refine hf1.mono ?_)
  intro r w3; first | (intro he b3; subst he) | rintro ⟨rfl, b3⟩
  go_wp2
  go_ret
  exact ⟨rfl, b2.trans (b3.mono b2.size)⟩
end
end Go.Proofs.YtholnnabakaliaaGreatDoor

namespace Go.Proofs.YtholnnabakaliaaGreatDoor
open Go.RowKit

theorem Tryz.sizeId : (Tryz.prog.info? 23).map (·.size) = some 2 := by kernel_rfl
theorem Away.heap {bs : List Nat} {w w' : World} (h : Away bs w w') {b : Nat} {o : Obj} (ho : w.heap[b]? = some o) (hn : b ∉ bs) : w'.heap[b]? = some o :=
  (h.block b (Array.getElem?_eq_some_iff.1 ho).1 hn).trans ho
theorem Away.step {bs : List Nat} {a w w' : World} (h : Away bs a w) (hb : Below w.heap.size w w') : Away bs a w' := h.trans (Away.of_below hb)

section
variable {Y M : Nat} {tv : Value} {toks : List Tok} {pos : Nat} {line col e : Int} {free : Bool} {ls ln : Int} {es : Array MapEntry} {clk : Nat} {w : World} {t : Tok}
theorem Prs.elsewhere (h : Prs Y M tv toks pos line col e free ls ln es clk w) {k : Nat} {cs : Array Value} {T : TypeId} {fr : Nat × Nat} (hk : w.heap[k]? = some (.cells cs T fr)) (hT : T ≠ 85) (hT2 : T ≠ 100) (i : Nat) (u : Value) :
    Prs Y M tv toks pos line col e free ls ln es clk (w.setCell ⟨k, i, none⟩ u) := by
  have hY : Y ≠ k := by
    rintro rfl
    rw [h.blk] at hk
    injection hk with hk
    injection hk with _ h2 _
    exact hT h2.symm
  have hM : M ≠ k := by
    rintro rfl
    rw [h.map] at hk
    injection hk with hk
    cases hk
  refine ⟨(Below.heap_setCell _ _ _ _ hY).trans h.blk, (Below.heap_setCell _ _ _ _ hM).trans h.map, fun he => own_step (h.row he) fun j hj => Below.heap_setCell _ _ _ _ (fun e => ?_)⟩
  exact own_ne (h.row he) hk (by intro cs' fr' hc; injection hc with _ h2 _; exact hT2 h2) (by rw [hj, e])

theorem field0_run (a0 : Int) (a1 a2 a3 a4 a5 a6 : Value) (w : World) : (Instr.field 100 (.agg #[.int .i64 a0, a1, a2, a3, a4, a5, a6]) 0).run Tryz.prog w = .ok (.int .i64 a0) w := by
  simp [Instr.field, run_underlying Tryz.underlying100, Result.andThen, asAgg, part, isAgg, run_underlying Tryz.underlying3, Sem.run_bind]
theorem field1_run (a0 : Value) (a1 : ByteArray) (a2 a3 a4 a5 a6 : Value) (w : World) : (Instr.field 100 (.agg #[a0, .string a1, a2, a3, a4, a5, a6]) 1).run Tryz.prog w = .ok (.string a1) w := by
  simp [Instr.field, run_underlying Tryz.underlying100, Result.andThen, asAgg, part, isAgg, run_underlying Tryz.underlying9, Sem.run_bind]
theorem field6_run (a0 a1 a2 a3 a4 a5 : Value) (a6 : Bool) (w : World) : (Instr.field 100 (.agg #[a0, a1, a2, a3, a4, a5, .bool a6]) 6).run Tryz.prog w = .ok (.bool a6) w := by
  simp [Instr.field, run_underlying Tryz.underlying100, Result.andThen, asAgg, part, isAgg, run_underlying Tryz.underlying4, Sem.run_bind]

set_option maxHeartbeats 4000000 in
set_option maxRecDepth 100000 in
theorem isPitch_yes (h : Prs Y M tv toks pos line col 0 free ls ln es clk w) (ht : toks[pos]? = some t) (hk : t.kind = 1) (hlen' : 0 < t.text.size) (h65 : (65 : Int) ≤ (((t.text[0]'hlen').toNat : Nat) : Int)) (h71 : (((t.text[0]'hlen').toNat : Nat) : Int) ≤ 71) :
    Calls Tryz.prog 107 #[.pointer (some ⟨Y, 0, none⟩)] w fun r w' => r = .returned (.bool true) ∧ Below w.heap.size w w' := by
  have hp := peek_ok h ht
  obtain ⟨kd, text, v, bt, lin, cl, j⟩ := t
  simp only at hk hp hlen' h65 h71
  subst hk
  have hlen : (0 : Int) < (text.size : Int) := by omega
  clear h ht
  go_enter Tryz.func107, Tryz.ntmps107
  go_wp2_with (go_at_call 56; refine hp.mono ?_)
  intro r w1; first | (intro he b1; subst he) | rintro ⟨rfl, b1⟩
  go_wp2
  go_ret
  exact ⟨rfl, b1.alloc b1.size _⟩

set_option maxHeartbeats 4000000 in
set_option maxRecDepth 100000 in
theorem object_free (h : Prs Y M tv toks pos line col 0 true ls ln es clk w) (ht : toks[pos]? = some t) (hn : IsTok t ⟨#[64]⟩ = false) :
    Calls Tryz.prog 46 #[.pointer (some ⟨Y, 0, none⟩)] w fun r w' => r = .returned (.agg #[.int .i64 0, .int .i64 0]) ∧ Below w.heap.size w w' := by
  have b0 := (Below.refl w.heap.size w).alloc (Nat.le_refl _) (.cells #[.int .i64 0, .int .i64 0] 23)
  have h0 := h.step b0
  have x1 := is_ok h0 ht ⟨#[64]⟩ hn
  have hR0 := heap_alloc_new w (.cells #[.int .i64 0, .int .i64 0] 23)
  go_enter Tryz.func46, Tryz.ntmps46
  go_wp2_with (go_at_call 72; refine x1.mono ?_)
  intro r w1; first | (intro he b1; subst he) | rintro ⟨rfl, b1⟩
  have h1 := h0.step b1
  have hR1 := (b1.block _ (Array.getElem?_eq_some_iff.1 hR0).1).trans hR0
  have lR1 := (Array.getElem?_eq_some_iff.1 hR1).1
  have c5 := h1.c5
  have bel := b0.trans (b1.mono (by simp))
  have r0 : w1.cell? ⟨w.heap.size, 0, none⟩ = some (.int .i64 0) := by rw [Lib.cell_of_heap hR1]; rfl
  have r1 : w1.cell? ⟨w.heap.size, 1, none⟩ = some (.int .i64 0) := by rw [Lib.cell_of_heap hR1]; rfl
  have fr0 : w1.frozen? ⟨w.heap.size, 0, none⟩ = false := Lib.frozen_of_heap hR1 0
  have fr1 : w1.frozen? ⟨w.heap.size, 1, none⟩ = false := Lib.frozen_of_heap hR1 1
  clear h h0 h1 x1
  go_wp2
  have hR4 := Lib.heap_setCell_same (i := 1) (Lib.heap_setCell_same (i := 0) hR1 (.int .i64 0)) (.int .i64 0)
  refine bodyPost_ret (results_cell_row rfl _ _ w.heap.size 23 _ (0, 0) _ rfl hR4 Tryz.underlying23 rfl Tryz.sizeId) rfl ?_
  exact ⟨rfl, (bel.setCell (p := ⟨w.heap.size, 0, none⟩) (Nat.le_refl _) _).setCell (p := ⟨w.heap.size, 1, none⟩) (Nat.le_refl _) _⟩
end
end Go.Proofs.YtholnnabakaliaaGreatDoor
