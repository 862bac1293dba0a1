/-
  An own evaluator of closed runs of a program, proved sound against the model for every order of draws and every capacity of append. This text is one part of it; the theorems 'closed', 'evCall_sound' say what a run in the kernel proves. Used for the law's closed self-test and for what it calls on constants.
-/
import Derived.Test.YtmoddgkjaimpfaaGreatDoorDamJ
namespace Go.Dam

section
variable {P : Program} {callF : Fn → List Value → St → Option (Value × St)}

/-- Fewer blocks are kept. -/
theorem After.sub {ro : Option Nat} {E : Env} {A : Nat → Prop} {S0 S : St} {w : World} {a : Act} {tm : List Value} {h : List (Nat × Obj)} {R : Act → World → Prop} (hs : ∀ n o, getB h n = some o → getB S.heap n = some o) (hQ : After P ro E A S0 w a tm ⟨h, S.next⟩ R) : After P ro E A S0 w a tm S R :=
  fun E' a' w' p ht hd => hQ E' a' w' (p.drop hs) ht hd

/-! maps.Copy: entries laid into a map, in whatever order they come -/

theorem evOps_step {ops r : List Oper} {o : Oper} {tm : List Value} {S S' : St} {v : Value} (hg : o.guard = none) (hs : astep callF P tm S o = some (v, S')) (hle : S.next ≤ S'.next) : evOps callF P ops (o :: r) tm S = evOps callF P ops r (putD tm o.dst v) S' := by
  simp only [evOps, aguard, hg, if_true, hs, Nat.ble_eq, hle]

theorem evC_seq_n {f : Nat} {x y : Code} {tm tm1 : List Value} {S S1 : St} {q : Option (Exit × List Value × St)} (h1 : evC callF P f x tm S = some (.normal, tm1, S1)) (h2 : evC callF P f y tm1 S1 = q) : evC callF P (f + 1) (.seq x y) tm S = q := by
  have : evC callF P (f + 1) (.seq x y) tm S = (match evC callF P f x tm S with | some (.normal, tm', S') => evC callF P f y tm' S' | r => r) := rfl
  rw [this, h1]; exact h2

theorem evC_cond_t {f : Nat} {c : Operand} {x y : Code} {tm : List Value} {S : St} {q : Option (Exit × List Value × St)} (hc : aeval tm c = .bool true) (h : evC callF P f x tm S = q) : evC callF P (f + 1) (.cond c x y) tm S = q := by
  have : evC callF P (f + 1) (.cond c x y) tm S = (match aeval tm c with | .bool true => evC callF P f x tm S | .bool false => evC callF P f y tm S | _ => none) := rfl
  rw [this, hc]; exact h

theorem evC_cond_f {f : Nat} {c : Operand} {x y : Code} {tm : List Value} {S : St} {q : Option (Exit × List Value × St)} (hc : aeval tm c = .bool false) (h : evC callF P f y tm S = q) : evC callF P (f + 1) (.cond c x y) tm S = q := by
  have : evC callF P (f + 1) (.cond c x y) tm S = (match aeval tm c with | .bool true => evC callF P f x tm S | .bool false => evC callF P f y tm S | _ => none) := rfl
  rw [this, hc]; exact h

theorem evC_block_n {f id : Nat} {b : Code} {tm tm' : List Value} {S S' : St} (h : evC callF P f b tm S = some (.normal, tm', S')) : evC callF P (f + 1) (.block id b) tm S = some (.normal, tm', S') := by
  have : evC callF P (f + 1) (.block id b) tm S = (match evC callF P f b tm S with | some (.exit j, tm', S') => if Nat.beq j id = true then some (.normal, tm', S') else some (.exit j, tm', S') | r => r) := rfl
  rw [this, h]

theorem evC_region_n {f i : Nat} {ops : Array Oper} {tm tm' : List Value} {S S' : St} (h : evOps callF P ops.toList ops.toList tm S = some (tm', S')) : evC callF P (f + 1) (.region i ops false) tm S = some (.normal, tm', S') := by
  have : evC callF P (f + 1) (.region i ops false) tm S = (match evOps callF P ops.toList ops.toList tm S with | some (tm', S') => some (.normal, tm', S') | none => none) := rfl
  rw [this, h]

theorem len16 {l : List Value} (h : l.length = 16) : ∃ x0 x1 x2 x3 x4 x5 x6 x7 x8 x9 x10 x11 x12 x13 x14 x15, l = [x0, x1, x2, x3, x4, x5, x6, x7, x8, x9, x10, x11, x12, x13, x14, x15] := by
  rcases l with _ | ⟨x0, _ | ⟨x1, _ | ⟨x2, _ | ⟨x3, _ | ⟨x4, _ | ⟨x5, _ | ⟨x6, _ | ⟨x7, _ | ⟨x8, _ | ⟨x9, _ | ⟨x10, _ | ⟨x11, _ | ⟨x12, _ | ⟨x13, _ | ⟨x14, _ | ⟨x15, _ | ⟨y, r⟩⟩⟩⟩⟩⟩⟩⟩⟩⟩⟩⟩⟩⟩⟩⟩⟩
  all_goals first | exact ⟨_, _, _, _, _, _, _, _, _, _, _, _, _, _, _, _, rfl⟩ | (simp at h; done) | (simp only [List.length_cons] at h; omega)

/-- A key that is not yet there. -/
theorem amapUpdate_new {S : St} {t kt et : TypeId} {d : Nat} {es : Array MapEntry} {clk : Nat} {k : ByteArray} {v : Value} (ht : P.underlying t = some (.map kt et)) (hk : P.underlying kt = some .string) (hg : getB S.heap d = some (.map es clk)) (hl : loose es clk = false) (ha : allStr es.toList) (hno : strFind k es.toList = none) :
    amapUpdate P S t (.map (some d)) (.string k) v = some ⟨setB S.heap d (.map (es.push { key := .string k, val := v, born := clk }) (clk + 1)), S.next⟩ := by
  obtain ⟨r, h1, h2⟩ := findKey_str (P := P) hk k ha
  rw [hno] at h2
  have hr : r = none := by
    cases r with
    | none => rfl
    | some x => simp at h2
  subst hr
  have hkp : keysPlain es.toList = true := keysPlain_of fun e he => by
    obtain ⟨s, hs⟩ := ha e he
    rw [hs]; rfl
  have hq : purely P (do Instr.checkKey false 10000 kt (.string k); Instr.findKey kt (.string k) es.toList) = some none := by
    rw [purely_bind, checkKey_str hk, Option.bind_some, h1]
  have hp : plain2 (.string k) = true := rfl
  simp only [amapUpdate, ht, hp, if_true, hg, hl, Bool.false_eq_true, if_false, hkp]
  rw [hq]

/-- The operations of maps.Copy. -/
structure CopyOps where
  m0 : Oper
  rg : Oper
  o1 : Oper
  o2 : Oper
  p1 : Oper
  p2 : Oper
  p3 : Oper
  p4 : Oper
  p5 : Oper
  p6 : Oper
  q1 : Oper
  q2 : Oper
  q3 : Oper
  q4 : Oper

def CopyOps.rest (C : CopyOps) : Code := .seq (.cond (.tmp 9) .skip (.exit 0)) (.block 1 (.seq (.region 2 #[C.p1, C.p2, C.p3, C.p4, C.p5, C.p6] false) (.region 3 #[C.q1, C.q2, C.q3, C.q4] false)))
def CopyOps.code (C : CopyOps) : Code := .seq (.region 0 #[C.m0, C.rg] false) (.block 0 (.loop (.seq (.region 1 #[C.o1, C.o2] false) C.rest)))

def CopyOps.sums (C : CopyOps) : List (Op × Option Tmp × Option (Nat × Bool)) := [C.m0, C.rg, C.o1, C.o2, C.p1, C.p2, C.p3, C.p4, C.p5, C.p6, C.q1, C.q2, C.q3, C.q4].map fun o => (o.op, o.dst, o.guard)
def copySums (tM tT : TypeId) : List (Op × Option Tmp × Option (Nat × Bool)) :=
  [(.move (.tmp 1), some 6, none), (.range tM (.tmp 6), some 7, none), (.next (.tmp 7) false, some 8, none), (.extract (.tmp 8) 0, some 9, none),
   (.entry (.tmp 7), some 10, none), (.extract (.tmp 10) 0, some 11, none), (.extract (.tmp 10) 1, some 12, none), (.alloc tT, some 5, none), (.assign (.tmp 11), some 4, none), (.store tT (.tmp 5) (.tmp 12), none, none),
   (.move (.tmp 0), some 13, none), (.move (.tmp 4), some 14, none), (.load tT (.tmp 5), some 15, none), (.mapUpdate tM (.tmp 13) (.tmp 14) (.tmp 15), none, none)]

/-- All that is asked of the program's text. -/
structure CopyText (P : Program) (g : FuncId) (fn : Func) (C : CopyOps) (tM tT kt et : TypeId) (sz : Nat) (z : List Value) : Prop where
  hfn : P.funcs[g]? = some fn
  body : fn.body = some C.code
  ntmps : fn.ntmps = 16
  results : fn.results.toList = []
  sums : C.sums = copySums tM tT
  uM : P.underlying tM = some (.map kt et)
  uK : P.underlying kt = some .string
  agg : aggT P tT = some true
  size : sizeT P tT = some sz
  zero : aallocCells P tT = some z
  zplain : plainAll z = true
  zlen : z.length = sz
  pos : 0 < sz
  ok : okCode P C.code = true

/-- An entry that may be copied. -/
def entryOk (sz : Nat) (e : MapEntry) : Bool := match e.key, e.val with
  | .string _, .agg vs => Nat.beq vs.size sz && allOne vs.toList
  | _, _ => false

variable {g : FuncId} {fn : Func} {C : CopyOps} {tM tT kt et : TypeId} {sz : Nat} {z : List Value}

/-- The slots behind a round. -/
def stepT (d n : Nat) (tm : List Value) (e : MapEntry) : List Value :=
  putD (putD (putD (putD (putD (putD (putD (putD (putD (putD tm (some 8) (.tuple #[.bool true, e.key, e.val])) (some 9) (.bool true)) (some 10) (.tuple #[e.key, e.val])) (some 11) e.key) (some 12) e.val) (some 5) (.pointer (some ⟨n, 0, none⟩))) (some 4) e.key) (some 13) (.map (some d))) (some 14) e.key) (some 15) e.val

def tmsOf (d n0 : Nat) (tm0 : List Value) (xs : List MapEntry) : List Value := (xs.foldl (fun (x : List Value × Nat) e => (stepT d x.2 x.1 e, x.2 + 2)) (tm0, n0)).1

theorem fold_snd (d : Nat) : ∀ (xs : List MapEntry) (x : List Value × Nat), (xs.foldl (fun (x : List Value × Nat) e => (stepT d x.2 x.1 e, x.2 + 2)) x).2 = x.2 + 2 * xs.length
  | [], x => by simp
  | e :: r, x => by
    rw [List.foldl_cons, fold_snd d r]
    simp; omega

theorem tmsOf_snoc (d n0 : Nat) (tm0 : List Value) (xs : List MapEntry) (e : MapEntry) : tmsOf d n0 tm0 (xs ++ [e]) = stepT d (n0 + 2 * xs.length) (tmsOf d n0 tm0 xs) e := by
  unfold tmsOf
  rw [List.foldl_append, List.foldl_cons, List.foldl_nil, fold_snd]

structure TmIs (d r : Nat) (tm : List Value) : Prop where
  len : tm.length = 16
  dst : nth tm 0 = .map (some d)
  it : nth tm 7 = .pointer (some ⟨r, 0, none⟩)

theorem TmIs.step {d r n : Nat} {tm : List Value} (h : TmIs d r tm) (e : MapEntry) : TmIs d r (stepT d n tm e) := by
  obtain ⟨h1, h2, h3⟩ := h
  obtain ⟨x0, x1, x2, x3, x4, x5, x6, x7, x8, x9, x10, x11, x12, x13, x14, x15, rfl⟩ := len16 h1
  exact ⟨rfl, h2, h3⟩

theorem snoc_ind {α : Type} {p : List α → Prop} (h0 : p []) (h1 : ∀ xs x, p xs → p (xs ++ [x])) (xs : List α) : p xs := by
  have : ∀ ys : List α, p ys.reverse := by
    intro ys
    induction ys with
    | nil => exact h0
    | cons a r ih => rw [List.reverse_cons]; exact h1 _ _ ih
  have := this xs.reverse
  rwa [List.reverse_reverse] at this

theorem TmIs.tms {d r n0 : Nat} {tm0 : List Value} (h : TmIs d r tm0) (xs : List MapEntry) : TmIs d r (tmsOf d n0 tm0 xs) := by
  induction xs using snoc_ind with
  | h0 => exact h
  | h1 xs e ih => rw [tmsOf_snoc]; exact ih.step e

/-- The destination behind the entries 'xs'. -/
def stamps : Nat → List MapEntry → List MapEntry
  | _, [] => []
  | c, e :: r => { key := e.key, val := e.val, born := c } :: stamps (c + 1) r

theorem stamps_snoc : ∀ (c : Nat) (xs : List MapEntry) (e : MapEntry), stamps c (xs ++ [e]) = stamps c xs ++ [{ key := e.key, val := e.val, born := c + xs.length }]
  | c, [], e => rfl
  | c, a :: r, e => by
    simp only [List.cons_append, stamps, stamps_snoc (c + 1) r e, List.length_cons]
    congr 3
    congr 1
    omega

theorem stamps_length : ∀ (c : Nat) (xs : List MapEntry), (stamps c xs).length = xs.length
  | _, [] => rfl
  | c, a :: r => by simp [stamps, stamps_length (c + 1) r]

theorem stamps_kv : ∀ (c : Nat) (xs : List MapEntry), (stamps c xs).map (fun x => (x.key, x.val)) = xs.map fun x => (x.key, x.val)
  | _, [] => rfl
  | c, a :: r => by simp [stamps, stamps_kv (c + 1) r]

def heapOf (r d s clock c' : Nat) (es esl : Array MapEntry) (xs : List MapEntry) : List (Nat × Obj) :=
  [(r, .mapIter (some s) clock (xs.map (·.born)).toArray clock), (d, .map (esl.toList ++ stamps c' xs).toArray (c' + xs.length)), (s, .map es clock)]

theorem strFind_append {k : ByteArray} : ∀ {l l' : List MapEntry}, strFind k l = none → strFind k l' = none → strFind k (l ++ l') = none
  | [], l', _, h => h
  | a :: r, l', h, h' => by
    simp only [List.cons_append, strFind] at h ⊢
    split at h
    · rename_i t ht
      split at h
      · cases h
      · rename_i hc; rw [if_neg hc]; exact strFind_append h h'
    · exact strFind_append h h'

theorem strFind_none_of {k : ByteArray} : ∀ {l : List MapEntry}, (∀ e ∈ l, e.key ≠ .string k) → strFind k l = none
  | [], _ => rfl
  | a :: r, h => by
    have h1 := h a (by simp)
    simp only [strFind]
    split
    · rename_i t ht
      rw [if_neg]
      · exact strFind_none_of fun e he => h e (List.mem_cons_of_mem _ he)
      · intro hc
        rw [(ba_beq k t).1 hc] at h1
        exact h1 ht
    · exact strFind_none_of fun e he => h e (List.mem_cons_of_mem _ he)

set_option maxHeartbeats 2000000 in
/-- One round. -/
theorem copy_round (T : CopyText P g fn C tM tT kt et sz z) {r d s clock c' n : Nat} {es esl : Array MapEntry} {xs : List MapEntry} {e : MapEntry} {tm : List Value} (hI : TmIs d r tm) (hrd : r ≠ d) (hrs : r ≠ s) (hds : d ≠ s) (hnr : n ≠ r) (hnd' : n ≠ d) (hns : n ≠ s) (hev : n % 2 = 0)
    (hloose : loose es clock = false) (hnd : (es.toList.map (·.born)).Nodup) (he : e ∈ es.toList) (heo : entryOk sz e = true) (hdl : loose (esl.toList ++ stamps c' xs).toArray (c' + xs.length) = false) (ha : allStr (esl.toList ++ stamps c' xs)) (hno : ∀ k, e.key = .string k → strFind k (esl.toList ++ stamps c' xs) = none) (f : Nat) :
    ∃ tm2 S2 h', evOps callF P [C.o1, C.o2] [C.o2] (putD tm (some 8) (.tuple #[.bool true, e.key, e.val])) ⟨setB (heapOf r d s clock c' es esl xs) r (.mapIter (some s) clock ((xs.map (·.born)).toArray.push e.born) clock), n⟩ = some (tm2, S2) ∧
      evC callF P (f + 4) C.rest tm2 S2 = some (.normal, stepT d n tm e, ⟨h', n + 2⟩) ∧ ∀ m o, getB (heapOf r d s clock c' es esl (xs ++ [e])) m = some o → getB h' m = some o := by
  obtain ⟨k, vs, hk, hv, hvs, hone⟩ : ∃ k vs, e.key = .string k ∧ e.val = .agg vs ∧ vs.size = sz ∧ allOne vs.toList = true := by
    unfold entryOk at heo
    split at heo
    · rename_i k vs h1 h2
      simp only [Bool.and_eq_true] at heo
      exact ⟨k, vs, h1, h2, Nat.eq_of_beq_eq_true heo.1, heo.2⟩
    · cases heo
  have hsum := T.sums
  simp only [CopyOps.sums, copySums, List.map_cons, List.map_nil, List.cons.injEq, Prod.mk.injEq, and_true] at hsum
  obtain ⟨⟨_, _, _⟩, ⟨_, _, _⟩, ⟨_, _, _⟩, ⟨o2a, o2b, o2c⟩, ⟨p1a, p1b, p1c⟩, ⟨p2a, p2b, p2c⟩, ⟨p3a, p3b, p3c⟩, ⟨p4a, p4b, p4c⟩, ⟨p5a, p5b, p5c⟩, ⟨p6a, p6b, p6c⟩, ⟨q1a, q1b, q1c⟩, ⟨q2a, q2b, q2c⟩, ⟨q3a, q3b, q3c⟩, ⟨q4a, q4b, q4c⟩⟩ := hsum
  obtain ⟨hlen, hdst, hit⟩ := hI
  obtain ⟨x0, x1, x2, x3, x4, x5, x6, x7, x8, x9, x10, x11, x12, x13, x14, x15, rfl⟩ := len16 hlen
  have hdst : x0 = .map (some d) := hdst
  have hit : x7 = .pointer (some ⟨r, 0, none⟩) := hit
  subst hdst hit
  have hb1 : ∀ a : Nat, Nat.beq a a = true := fun a => by simp
  have hb2 : ∀ {a b : Nat}, a ≠ b → ¬ Nat.beq a b = true := fun h => by simpa using h
  -- the heap behind the step
  have hh : setB (heapOf r d s clock c' es esl xs) r (.mapIter (some s) clock ((xs.map (·.born)).toArray.push e.born) clock) = [(r, .mapIter (some s) clock ((xs.map (·.born)).toArray.push e.born) clock), (d, .map (esl.toList ++ stamps c' xs).toArray (c' + xs.length)), (s, .map es clock)] := by
    unfold heapOf
    simp only [setB]
    rw [if_pos (hb1 r)]
  rw [hh]
  obtain ⟨H1, hH1⟩ : ∃ H1 : List (Nat × Obj), [(r, Obj.mapIter (some s) clock ((xs.map (·.born)).toArray.push e.born) clock), (d, Obj.map (esl.toList ++ stamps c' xs).toArray (c' + xs.length)), (s, Obj.map es clock)] = H1 := ⟨_, rfl⟩
  have gr : getB H1 r = some (.mapIter (some s) clock ((xs.map (·.born)).toArray.push e.born) clock) := by rw [← hH1]; simp only [getB]; rw [if_pos (hb1 r)]
  have gd : getB H1 d = some (.map (esl.toList ++ stamps c' xs).toArray (c' + xs.length)) := by rw [← hH1]; simp only [getB]; rw [if_neg (hb2 hrd), if_pos (hb1 d)]
  have gs : getB H1 s = some (.map es clock) := by rw [← hH1]; simp only [getB]; rw [if_neg (hb2 hrs), if_neg (hb2 hds), if_pos (hb1 s)]
  have sd : ∀ o, setB H1 d o = [(r, Obj.mapIter (some s) clock ((xs.map (·.born)).toArray.push e.born) clock), (d, o), (s, Obj.map es clock)] := by
    intro o; rw [← hH1]; simp only [setB]; rw [if_neg (hb2 hrd), if_pos (hb1 d)]
  rw [hH1]
  have row0 : isRow n = false := by unfold isRow; rw [hev]; rfl
  -- the operations
  have so2 : astep callF P (putD [.map (some d), x1, x2, x3, x4, x5, x6, .pointer (some ⟨r, 0, none⟩), x8, x9, x10, x11, x12, x13, x14, x15] (some 8) (.tuple #[.bool true, e.key, e.val])) ⟨H1, n⟩ C.o2 = some (.bool true, ⟨H1, n⟩) := by
    simp only [astep, o2a]; rfl
  have hent : aentry ⟨H1, n⟩ (.pointer (some ⟨r, 0, none⟩)) = some (.tuple #[e.key, e.val]) := aentry_nd (S := ⟨H1, n⟩) gr gs hloose hnd he
  refine ⟨[.map (some d), x1, x2, x3, x4, x5, x6, .pointer (some ⟨r, 0, none⟩), .tuple #[.bool true, e.key, e.val], .bool true, x10, x11, x12, x13, x14, x15], ⟨H1, n⟩, (n, .cells vs tT (0, 0)) :: setB H1 d (.map ((esl.toList ++ stamps c' xs).toArray.push { key := e.key, val := e.val, born := c' + xs.length }) (c' + xs.length + 1)), ?_, ?_, ?_⟩
  · rw [evOps_step o2c so2 (Nat.le_refl _), o2b]
    rfl
  · unfold CopyOps.rest
    refine evC_seq_n (tm1 := [.map (some d), x1, x2, x3, x4, x5, x6, .pointer (some ⟨r, 0, none⟩), .tuple #[.bool true, e.key, e.val], .bool true, x10, x11, x12, x13, x14, x15]) (S1 := ⟨H1, n⟩) (evC_cond_t rfl rfl) (evC_block_n ?_)
    refine evC_seq_n (tm1 := [.map (some d), x1, x2, x3, e.key, .pointer (some ⟨n, 0, none⟩), x6, .pointer (some ⟨r, 0, none⟩), .tuple #[.bool true, e.key, e.val], .bool true, .tuple #[e.key, e.val], e.key, e.val, x13, x14, x15]) (S1 := ⟨(n, .cells vs tT (0, 0)) :: H1, n + 2⟩) (evC_region_n ?_) (evC_region_n ?_)
    · have s1 : ∀ tm : List Value, nth tm 7 = .pointer (some ⟨r, 0, none⟩) → astep callF P tm ⟨H1, n⟩ C.p1 = some (.tuple #[e.key, e.val], ⟨H1, n⟩) := by
        intro tm h7
        simp only [astep, p1a, aeval, h7, hent]
      have s2 : ∀ tm : List Value, nth tm 10 = .tuple #[e.key, e.val] → astep callF P tm ⟨H1, n⟩ C.p2 = some (e.key, ⟨H1, n⟩) := by
        intro tm h7
        simp only [astep, p2a, aeval, h7]; rfl
      have s3 : ∀ tm : List Value, nth tm 10 = .tuple #[e.key, e.val] → astep callF P tm ⟨H1, n⟩ C.p3 = some (e.val, ⟨H1, n⟩) := by
        intro tm h7
        simp only [astep, p3a, aeval, h7]; rfl
      have s4 : ∀ tm : List Value, astep callF P tm ⟨H1, n⟩ C.p4 = some (.pointer (some ⟨n, 0, none⟩), ⟨(n, .cells z.toArray tT (0, 0)) :: H1, n + 2⟩) := by
        intro tm
        simp only [astep, p4a, T.zero, T.zplain, if_true, newExact]
      have s5 : ∀ (tm : List Value) (S : St), nth tm 11 = e.key → astep callF P tm S C.p5 = some (e.key, S) := by
        intro tm S h7
        simp only [astep, p5a, aeval, h7]
      have hst : astore P ((n, .cells z.toArray tT (0, 0)) :: H1) tT (.pointer (some ⟨n, 0, none⟩)) (.agg vs) = some ((n, .cells vs tT (0, 0)) :: H1) := by
        have hne : vs.toList ≠ [] := by
          intro h0
          have : vs.size = 0 := by rw [← Array.length_toList, h0]; rfl
          have := T.pos
          omega
        have hget : getB ((n, Obj.cells z.toArray tT (0, 0)) :: H1) n = some (.cells z.toArray tT (0, 0)) := by simp only [getB]; rw [if_pos (hb1 n)]
        have hover : over z 0 vs.toList = vs.toList := by
          unfold over
          rw [List.drop_eq_nil_of_le (by rw [T.zlen, Array.length_toList, hvs]; exact Nat.le_refl _), List.append_nil]
        have hcond : (Nat.ble (0 + vs.toList.length) z.toArray.size && allOne vs.toList && mayWrite n 0 (0, 0)) = true := by
          simp only [Bool.and_eq_true, hone, mayWrite, row0]
          refine ⟨⟨?_, trivial⟩, rfl⟩
          rw [Nat.ble_eq]
          simp [T.zlen, hvs]
        unfold astore
        simp only [T.size, Value.cells, hvs, hb1, if_true]
        unfold astoreCells
        split
        · rename_i h0; exact absurd h0 hne
        · rw [hget]
          simp only [hcond, if_true, setB, hb1, hover]
      have s6 : ∀ tm : List Value, nth tm 5 = .pointer (some ⟨n, 0, none⟩) → nth tm 12 = e.val → astep callF P tm ⟨(n, .cells z.toArray tT (0, 0)) :: H1, n + 2⟩ C.p6 = some (undef, ⟨(n, .cells vs tT (0, 0)) :: H1, n + 2⟩) := by
        intro tm h5 h12
        rw [hv] at h12
        simp only [astep, p6a, aeval, h5, h12, hst]
      show evOps callF P [C.p1, C.p2, C.p3, C.p4, C.p5, C.p6] [C.p1, C.p2, C.p3, C.p4, C.p5, C.p6] _ _ = _
      rw [evOps_step p1c (s1 _ rfl) (Nat.le_refl _), p1b, evOps_step p2c (s2 _ rfl) (Nat.le_refl _), p2b, evOps_step p3c (s3 _ rfl) (Nat.le_refl _), p3b, evOps_step p4c (s4 _) (by simp), p4b, evOps_step p5c (s5 _ _ rfl) (Nat.le_refl _), p5b, evOps_step p6c (s6 _ rfl rfl) (Nat.le_refl _), p6b]
      rfl
    · have hgd : getB ((n, Obj.cells vs tT (0, 0)) :: H1) d = some (.map (esl.toList ++ stamps c' xs).toArray (c' + xs.length)) := by
        simp only [getB]; rw [if_neg (hb2 hnd')]; exact gd
      have t1 : ∀ (tm : List Value) (S : St), nth tm 0 = .map (some d) → astep callF P tm S C.q1 = some (.map (some d), S) := by
        intro tm S h7
        simp only [astep, q1a, aeval, h7]
      have t2 : ∀ (tm : List Value) (S : St), nth tm 4 = e.key → astep callF P tm S C.q2 = some (e.key, S) := by
        intro tm S h7
        simp only [astep, q2a, aeval, h7]
      have t3 : ∀ tm : List Value, nth tm 5 = .pointer (some ⟨n, 0, none⟩) → astep callF P tm ⟨(n, .cells vs tT (0, 0)) :: H1, n + 2⟩ C.q3 = some (e.val, ⟨(n, .cells vs tT (0, 0)) :: H1, n + 2⟩) := by
        intro tm h5
        have hld : aload P ((n, .cells vs tT (0, 0)) :: H1) tT (.pointer (some ⟨n, 0, none⟩)) = some e.val := by
          have hcl : cellsOf ((n, Obj.cells vs tT (0, 0)) :: H1) n = some vs.toList := by
            unfold cellsOf
            simp only [getB, hb1, if_true]
          have hble : Nat.ble (0 + sz) vs.toList.length = true := by rw [Nat.ble_eq]; simp [hvs]
          simp only [aload, hcl, T.agg, T.size, hble, if_true, List.drop_zero]
          rw [hv, List.take_of_length_le (by simp [hvs])]
        simp only [astep, q3a, aeval, h5, hld]
      have t4 : ∀ tm : List Value, nth tm 13 = .map (some d) → nth tm 14 = e.key → nth tm 15 = e.val → astep callF P tm ⟨(n, .cells vs tT (0, 0)) :: H1, n + 2⟩ C.q4 = some (undef, ⟨(n, .cells vs tT (0, 0)) :: setB H1 d (.map ((esl.toList ++ stamps c' xs).toArray.push { key := e.key, val := e.val, born := c' + xs.length }) (c' + xs.length + 1)), n + 2⟩) := by
        intro tm h13 h14 h15
        have hup := amapUpdate_new (P := P) (S := ⟨(n, .cells vs tT (0, 0)) :: H1, n + 2⟩) (v := e.val) T.uM T.uK hgd hdl (by simpa using ha) (by simpa using hno k hk)
        rw [← hk] at hup
        simp only [astep, q4a, aeval, h13, h14, h15, hup]
        simp only [setB]
        rw [if_neg (hb2 hnd')]
      show evOps callF P [C.q1, C.q2, C.q3, C.q4] [C.q1, C.q2, C.q3, C.q4] _ _ = _
      rw [evOps_step q1c (t1 _ _ rfl) (Nat.le_refl _), q1b, evOps_step q2c (t2 _ _ rfl) (Nat.le_refl _), q2b, evOps_step q3c (t3 _ rfl) (Nat.le_refl _), q3b, evOps_step q4c (t4 _ rfl rfl rfl) (Nat.le_refl _), q4b]
      rfl
  · intro m o hm
    rw [sd]
    unfold heapOf at hm
    have e1 : (esl.toList ++ stamps c' (xs ++ [e])).toArray = (esl.toList ++ stamps c' xs).toArray.push { key := e.key, val := e.val, born := c' + xs.length } := by
      apply Array.ext'
      simp [stamps_snoc]
    have e2 : ((xs ++ [e]).map (·.born)).toArray = (xs.map (·.born)).toArray.push e.born := by
      apply Array.ext'
      simp
    rw [e1, e2] at hm
    have e3 : c' + (xs ++ [e]).length = c' + xs.length + 1 := by simp; omega
    rw [e3] at hm
    simp only [getB] at hm ⊢
    by_cases hmn : n = m
    · exfalso
      subst hmn
      rw [if_neg (hb2 (Ne.symm hnr)), if_neg (hb2 (Ne.symm hnd'))] at hm
      split at hm
      · rename_i hs
        exact hns (Nat.eq_of_beq_eq_true hs).symm
      · cases hm
    · rw [if_neg (hb2 hmn)]
      exact hm


theorem callNone : CallOk P (fun _ _ _ => none) := fun _ _ _ _ _ h => by cases h

/-- Whatever the order: the entries of the one map lie in the other. -/
theorem copy_exact (T : CopyText P g fn C tM tT kt et sz z) (hm : P.follows .mixedOrders = true) (hnm : NamesOk P) {d s n0 clock c' : Nat} {es esl : Array MapEntry} (hds : d ≠ s) (hev : n0 % 2 = 0)
    (hloose : loose es clock = false) (hdl : loose esl c' = false) (hborn : ∀ x ∈ es.toList, x.born < clock) (hnd : (es.toList.map (·.born)).Nodup) (hall : ∀ e ∈ es.toList, entryOk sz e = true) (hstr : allStr esl.toList)
    (hnew : ∀ e ∈ es.toList, ∀ e' ∈ esl.toList, e'.key ≠ e.key) (hdist : es.toList.Pairwise fun x y => x.key ≠ y.key)
    {E : Env} {A : Nat → Prop} {w : World} (hg : Glb P E A) (H : Holds P E A [(d, .map esl c'), (s, .map es clock)] w) (hA : ∀ n, A n → ¬ (n0 ≤ n ∧ n < n0 + 2 + 2 * es.size)) :
    Calls P g ([Value.map (some d), .map (some s)].map (ren E)).toArray w fun e w' => ∃ (ys : { ys : List MapEntry // ys.Perm es.toList }) (E' : Env), e = .returned (ren E' (oneOf [])) ∧
      Post P E A [(d, .map esl c'), (s, .map es clock)] n0 w E' [(d, .map (esl.toList ++ stamps c' ys.1).toArray (c' + ys.1.length)), (s, .map es clock)] (n0 + 2 + 2 * es.size) w' ∧ Sc (fun n => A n ∨ (n0 ≤ n ∧ n < n0 + 2 + 2 * es.size)) (oneOf []) := by
  have hb1 : ∀ a : Nat, Nat.beq a a = true := fun a => by simp
  have hb2 : ∀ {a b : Nat}, a ≠ b → ¬ Nat.beq a b = true := fun h => by simpa using h
  have hAd : A d := (H.blk d _ (by simp only [getB]; rw [if_pos (hb1 d)])).1
  have hAs : A s := (H.blk s _ (by simp only [getB]; rw [if_neg (hb2 hds), if_pos (hb1 s)])).1
  have hd0 := hA d hAd
  have hs0 := hA s hAs
  have hrd : n0 ≠ d := by omega
  have hrs : n0 ≠ s := by omega
  have hsum := T.sums
  simp only [CopyOps.sums, copySums, List.map_cons, List.map_nil, List.cons.injEq, Prod.mk.injEq, and_true] at hsum
  obtain ⟨⟨m0a, m0b, m0c⟩, ⟨rga, rgb, rgc⟩, ⟨o1a, o1b, o1c⟩, ⟨o2a, o2b, o2c⟩, _⟩ := hsum
  have hok := T.ok
  have hokr : okCode P C.rest = true := by
    unfold CopyOps.code at hok
    simp only [okCode, Bool.and_eq_true] at hok
    exact hok.2.2
  -- the slots at the loop's head
  let tm0 : List Value := [.map (some d), .map (some s), undef, undef, undef, undef, .map (some s), .pointer (some ⟨n0, 0, none⟩), undef, undef, undef, undef, undef, undef, undef, undef]
  have hI : TmIs d n0 tm0 := ⟨rfl, rfl, rfl⟩
  let TT : List MapEntry → List Value := fun xs => tmsOf d (n0 + 2) tm0 xs
  let FF : List MapEntry → St := fun xs => ⟨heapOf n0 d s clock c' es esl xs, n0 + 2 + 2 * xs.length⟩
  have hperm : ∀ {xs ls : List MapEntry}, (xs ++ ls).Perm es.toList → xs.length ≤ es.size := by
    intro xs ls hp
    have := hp.length_eq
    simp at this; omega
  have hr0 : ∀ xs, getB (heapOf n0 d s clock c' es esl xs) n0 = some (.mapIter (some s) clock (xs.map (·.born)).toArray clock) := fun xs => by unfold heapOf; simp only [getB]; rw [if_pos (hb1 n0)]
  have hs1 : ∀ xs, getB (heapOf n0 d s clock c' es esl xs) s = some (.map es clock) := fun xs => by unfold heapOf; simp only [getB]; rw [if_neg (hb2 hrs), if_neg (hb2 hds), if_pos (hb1 s)]
  have hkeys : ∀ {xs ls : List MapEntry} {e : MapEntry}, (xs ++ e :: ls).Perm es.toList → allStr (esl.toList ++ stamps c' xs) ∧ ∀ k, e.key = .string k → strFind k (esl.toList ++ stamps c' xs) = none := by
    intro xs ls e hp
    have hpw : (xs ++ e :: ls).Pairwise fun x y => x.key ≠ y.key := (hp.symm.pairwise hdist fun h => Ne.symm h)
    have hst : ∀ x ∈ stamps c' xs, ∃ y ∈ xs, y.key = x.key := by
      intro x hx
      have h1 : (x.key, x.val) ∈ (stamps c' xs).map fun x => (x.key, x.val) := List.mem_map.2 ⟨x, hx, rfl⟩
      rw [stamps_kv] at h1
      obtain ⟨y, hy, e1⟩ := List.mem_map.1 h1
      simp only [Prod.mk.injEq] at e1
      exact ⟨y, hy, e1.1⟩
    have hmem : ∀ y ∈ xs, y ∈ es.toList := fun y hy => hp.mem_iff.1 (by simp [hy])
    have hee : e ∈ es.toList := hp.mem_iff.1 (by simp)
    refine ⟨fun x hx => ?_, fun k hk => ?_⟩
    · rcases List.mem_append.1 hx with hx | hx
      · exact hstr x hx
      · obtain ⟨y, hy, e1⟩ := hst x hx
        have := hall y (hmem y hy)
        unfold entryOk at this
        split at this
        · rename_i k vs hk _; exact ⟨k, by rw [← e1, hk]⟩
        · cases this
    · refine strFind_append (strFind_none_of fun x hx hxk => hnew e hee x hx (by rw [hxk, hk])) (strFind_none_of fun x hx hxk => ?_)
      obtain ⟨y, hy, e1⟩ := hst x hx
      have := (List.pairwise_append.1 hpw).2.2 y hy e (by simp)
      exact this (by rw [e1, hxk, hk])
  have hdl2 : ∀ xs : List MapEntry, loose (esl.toList ++ stamps c' xs).toArray (c' + xs.length) = false := by
    intro xs
    have h1 := (blt_false' c' esl.size).1 hdl
    refine (blt_false' _ _).2 ?_
    simp [stamps_length]
    omega
  have hle : ∀ xs : List MapEntry, xs.length ≤ es.size → (FF xs).next ≤ n0 + 2 + 2 * es.size := fun xs h => by simp only [FF]; omega
  have hfin := calls_nd (P := P) (C := { ys : List MapEntry // ys.Perm es.toList }) (g := g) (fn := fn) (c := C.code) (args := [.map (some d), .map (some s)]) (S := ⟨[(d, .map esl c'), (s, .map es clock)], n0⟩) (E := E) (A := A) (w := w)
    (tmR := fun ys => putD (putD (TT ys.1) (some 8) (.tuple #[.bool false])) (some 9) (.bool false)) (SR := fun ys => ⟨[(d, .map (esl.toList ++ stamps c' ys.1).toArray (c' + ys.1.length)), (s, .map es clock)], n0 + 2 + 2 * es.size⟩) (vs := fun _ => []) T.hfn T.body ?_ (fun _ => by rw [T.results]; rfl) ?_
  · exact hfin
  · intro x hx
    simp only [List.mem_cons, List.not_mem_nil, or_false] at hx
    rcases hx with rfl | rfl
    · rw [Sc_map]; exact hAd
    · rw [Sc_map]; exact hAs
  intro a ht _ Q hQ
  rw [T.ntmps] at ht
  unfold CopyOps.code
  -- the range begins
  have hmove : ∀ (S : St), astep (fun _ _ _ => none) P [.map (some d), .map (some s), undef, undef, undef, undef, undef, undef, undef, undef, undef, undef, undef, undef, undef, undef] S C.m0 = some (.map (some s), S) := by
    intro S
    simp only [astep, m0a]; rfl
  have hrange : ∀ tm : List Value, nth tm 6 = .map (some s) → astep (fun _ _ _ => none) P tm ⟨[(d, .map esl c'), (s, .map es clock)], n0⟩ C.rg = some (.pointer (some ⟨n0, 0, none⟩), ⟨(n0, .mapIter (some s) clock #[] clock) :: [(d, .map esl c'), (s, .map es clock)], n0 + 2⟩) := by
    intro tm h6
    have hgs : getB [(d, Obj.map esl c'), (s, Obj.map es clock)] s = some (.map es clock) := by simp only [getB]; rw [if_neg (hb2 hds), if_pos (hb1 s)]
    simp only [astep, rga, aeval, h6, arange, T.uM, hgs, hloose, Bool.false_eq_true, if_false, newExact]
  have h0 : evC (fun _ _ _ => none) P 1 (.region 0 #[C.m0, C.rg] false) [.map (some d), .map (some s), undef, undef, undef, undef, undef, undef, undef, undef, undef, undef, undef, undef, undef, undef] ⟨[(d, .map esl c'), (s, .map es clock)], n0⟩ = some (.normal, tm0, ⟨(n0, .mapIter (some s) clock #[] clock) :: [(d, .map esl c'), (s, .map es clock)], n0 + 2⟩) := by
    refine evC_region_n ?_
    show evOps _ P [C.m0, C.rg] [C.m0, C.rg] _ _ = _
    rw [evOps_step m0c (hmove _) (Nat.le_refl _), m0b, evOps_step rgc (hrange _ rfl) (by simp), rgb]
    rfl
  have hok0 : okCode P (.region 0 #[C.m0, C.rg] false) = true := by
    unfold CopyOps.code at hok
    simp only [okCode, Bool.and_eq_true] at hok ⊢
    exact hok.1
  refine wpIn_seq ((evC_sound hm callNone hnm 1).1 _ _ _ .normal _ _ h0 hok0 none (fun hx => by cases hx) E A a w _ ht hg hev H (fun n hn hx => hA n hn (by simp only at hx; omega)) ?_)
  intro E1 a1 w1 p1 ht1 hd1
  refine wpIn_block (wpIn_loop_rounds (es.toList.length + 1) ?_)
  have hF0 : FF [] = ⟨(n0, .mapIter (some s) clock #[] clock) :: [(d, .map esl c'), (s, .map es clock)], n0 + 2⟩ := by
    simp only [FF, heapOf, stamps, List.map_nil, List.length_nil, List.append_nil, Nat.add_zero, Nat.mul_zero]
  have hT0 : TT [] = tm0 := rfl
  have hok2 : ∀ o ∈ [C.o2], ∀ x ∈ o.op.operands, okOpd P x = true := by
    intro o ho x hx
    obtain rfl := List.mem_singleton.1 ho
    rw [o2a] at hx
    simp only [Op.operands] at hx
    simp at hx
    subst hx
    rfl
  refine mapLoopR (N := n0 + 2 + 2 * es.size) (es := es) (r := n0) (m := s) (clock := clock) (tn := 8) (ti := 7) (T := TT) (F := FF) (TE := fun ys => putD (putD (TT ys) (some 8) (.tuple #[.bool false])) (some 9) (.bool false)) (FE := fun ys => FF ys) (ex := .exit 0) o1a o1c o1b hloose hborn hnd (by simp) ?_ ?_ ?_ ?_ ?_ es.toList.length [] es.toList rfl (by simp) E1 _ a1 w1 (by rw [hT0]; exact ht1) (hg.next (B := fun n => A n ∨ (n0 ≤ n ∧ n < n0 + 2)) (p1.agreeA fun n hn hx => hA n hn (by simp only at hx; omega)) fun n hn => .inl hn) (by rw [hF0]; exact p1.holds) ?_ ?_
  · intro xs ls hp
    exact ⟨hr0 xs, hs1 xs, (hI.tms xs).it, by simp only [FF]; omega⟩
  · intro xs ls ys hp hys
    have h1 := hperm hp
    have h2 : ys.length = es.size := by simpa using hys.length_eq
    simp only [FF]; omega
  · intro xs ls hp
    exact hle xs (hperm hp)
  · intro xs e ls hp E2 A2 a2 w2 R ht2 hg2 H2 hA2 hQ2
    obtain ⟨hk1, hk2⟩ := hkeys hp
    have hee : e ∈ es.toList := hp.mem_iff.1 (by simp)
    have hxl : xs.length + 1 ≤ es.size := by
      have := hp.length_eq
      simp at this; omega
    obtain ⟨tm2, S2, h', e1, e2, e3⟩ := copy_round (callF := fun _ _ _ => none) T (n := n0 + 2 + 2 * xs.length) (xs := xs) (e := e) (hI.tms (n0 := n0 + 2) xs) hrd hrs hds (by omega) (by omega) (by omega) (by omega) hloose hnd hee (hall e hee) (hdl2 xs) hk1 hk2 0
    refine opsThen hm callNone hnm (N := n0 + 2 + 2 * es.size) e1 e2 hok2 hokr (by simp only; omega) ht2 hg2 (by simp only; omega) H2 hA2 ?_
    refine After.sub e3 ?_
    have ht' : TT (xs ++ [e]) = stepT d (n0 + 2 + 2 * xs.length) (TT xs) e := tmsOf_snoc d (n0 + 2) tm0 xs e
    rw [ht'] at hQ2
    have hn' : (FF (xs ++ [e])).next = n0 + 2 + 2 * xs.length + 2 := by simp only [FF, List.length_append, List.length_singleton]; omega
    have hF' : FF (xs ++ [e]) = ⟨heapOf n0 d s clock c' es esl (xs ++ [e]), n0 + 2 + 2 * xs.length + 2⟩ := by
      rw [← hn']
    rw [hF'] at hQ2
    exact hQ2
  · intro xs hp E2 A2 a2 w2 R ht2 hg2 H2 hA2 hQ2
    have hxl : xs.length = es.size := by simpa using hp.length_eq
    have so2 : astep (fun _ _ _ => none) P (putD (TT xs) (some 8) (.tuple #[.bool false])) (FF xs) C.o2 = some (.bool false, FF xs) := by
      have hl : (TT xs).length = 16 := (hI.tms xs).len
      have h8 : nth (putD (TT xs) (some 8) (.tuple #[.bool false])) 8 = .tuple #[.bool false] := nth_setNth_self _ _ _ (by omega)
      simp only [astep, o2a, aeval, h8]; rfl
    have e1 : evOps (fun _ _ _ => none) P [C.o1, C.o2] [C.o2] (putD (TT xs) (some 8) (.tuple #[.bool false])) (FF xs) = some (putD (putD (TT xs) (some 8) (.tuple #[.bool false])) (some 9) (.bool false), FF xs) := by
      rw [evOps_step o2c so2 (Nat.le_refl _), o2b]; rfl
    have e2 : evC (fun _ _ _ => none) P 4 C.rest (putD (putD (TT xs) (some 8) (.tuple #[.bool false])) (some 9) (.bool false)) (FF xs) = some (.exit 0, putD (putD (TT xs) (some 8) (.tuple #[.bool false])) (some 9) (.bool false), FF xs) := by
      have hl : (putD (TT xs) (some 8) (.tuple #[.bool false])).length = 16 := by
        show (setNth (TT xs) 8 _).length = 16
        rw [length_setNth]; exact (hI.tms xs).len
      have h9 : aeval (putD (putD (TT xs) (some 8) (.tuple #[.bool false])) (some 9) (.bool false)) (.tmp 9) = .bool false := nth_setNth_self _ _ _ (by omega)
      have hcond := evC_cond_f (callF := fun _ _ _ => none) (P := P) (f := 2) (x := .skip) (y := .exit 0) (S := FF xs) h9 (q := some (.exit 0, putD (putD (TT xs) (some 8) (.tuple #[.bool false])) (some 9) (.bool false), FF xs)) rfl
      unfold CopyOps.rest
      have hseq : ∀ (x y : Code) (tm : List Value) (S : St), evC (fun _ _ _ => none) P 4 (.seq x y) tm S = (match evC (fun _ _ _ => none) P 3 x tm S with | some (.normal, tm', S') => evC (fun _ _ _ => none) P 3 y tm' S' | r => r) := fun _ _ _ _ => rfl
      rw [hseq, hcond]
    refine opsThen hm callNone hnm (N := n0 + 2 + 2 * es.size) e1 e2 hok2 hokr (hle xs (by omega)) ht2 hg2 (by simp only [FF]; omega) H2 hA2 hQ2
  · rintro n (hn | hn) hx
    · exact hA n hn (by rw [hF0] at hx; simp only at hx; omega)
    · rw [hF0] at hx; simp only at hx hn; omega
  · intro ys hys
    have hyl : ys.length = es.size := by simpa using hys.length_eq
    have hn1 : (FF ys).next = n0 + 2 + 2 * es.size := by simp only [FF]; omega
    refine After.sub (h := [(d, .map (esl.toList ++ stamps c' ys).toArray (c' + ys.length)), (s, .map es clock)]) ?_ ?_
    · intro m o hm'
      simp only [FF, heapOf]
      simp only [getB] at hm' ⊢
      by_cases hnm' : n0 = m
      · exfalso
        subst hnm'
        rw [if_neg (hb2 (Ne.symm hrd)), if_neg (hb2 (Ne.symm hrs))] at hm'
        cases hm'
      · rw [if_neg (hb2 hnm')]
        exact hm'
    · rw [hn1]
      have := (hQ ⟨ys, hys⟩).trans p1 hd1 (by simp only; omega)
      rw [hF0]
      intro E2 a2 w2 p2 ht2 hd2
      simp only [Exit.inBlock, if_true]
      exact (this E2 a2 w2 p2 ht2 hd2).1

end
end Go.Dam

namespace Go.Dam

section
variable {P : Program} {g : FuncId} {fn : Func} {C : CopyOps} {tM tT kt et : TypeId} {sz : Nat} {z : List Value}

def noDupN : List Nat → Bool
  | [] => true
  | x :: r => !(hasNat x r) && noDupN r

theorem hasNat_of {x : Nat} : ∀ {l : List Nat}, x ∈ l → hasNat x l = true
  | [], h => by cases h
  | a :: r, h => by
    simp only [hasNat, Bool.or_eq_true]
    rcases List.mem_cons.1 h with rfl | h
    · left; simp
    · exact .inr (hasNat_of h)

theorem noDupN_spec : ∀ {l : List Nat}, noDupN l = true → l.Nodup
  | [], _ => List.nodup_nil
  | a :: r, h => by
    simp only [noDupN, Bool.and_eq_true, Bool.not_eq_true'] at h
    rw [List.nodup_cons]
    refine ⟨fun hm => ?_, noDupN_spec h.2⟩
    rw [hasNat_of hm] at h
    cases h.1

theorem strDistinct_append : ∀ {l l' : List MapEntry}, strDistinct (l ++ l') = true → strDistinct l' = true ∧ (∀ x ∈ l, ∀ y ∈ l', x.key ≠ y.key) ∧ allStr l
  | [], l', h => ⟨h, (fun x hx => by cases hx), (fun x hx => by cases hx)⟩
  | a :: r, l', h => by
    simp only [List.cons_append, strDistinct, Bool.and_eq_true] at h
    obtain ⟨h1, h2⟩ := h
    obtain ⟨k1, k2, k3⟩ := strDistinct_append h2
    split at h1
    case h_2 => cases h1
    rename_i s hs
    refine ⟨k1, ?_, ?_⟩
    · intro x hx y hy
      rcases List.mem_cons.1 hx with rfl | hx
      · obtain ⟨t, ht, hne⟩ := notStr_spec h1 y (by simp [hy])
        rw [hs, ht]
        intro he
        injection he with he
        exact hne he
      · exact k2 x hx y hy
    · intro x hx
      rcases List.mem_cons.1 hx with rfl | hx
      · exact ⟨s, hs⟩
      · exact k3 x hx

theorem strDistinct_pairwise : ∀ {l : List MapEntry}, strDistinct l = true → l.Pairwise fun x y => x.key ≠ y.key
  | [], _ => List.Pairwise.nil
  | a :: r, h => by
    simp only [strDistinct, Bool.and_eq_true] at h
    obtain ⟨h1, h2⟩ := h
    split at h1
    case h_2 => cases h1
    rename_i s hs
    rw [List.pairwise_cons]
    refine ⟨fun y hy => ?_, strDistinct_pairwise h2⟩
    obtain ⟨t, ht, hne⟩ := notStr_spec h1 y hy
    rw [hs, ht]
    intro he
    injection he with he
    exact hne he

theorem Holds.mapAny2 {E : Env} {A : Nat → Prop} {h : List (Nat × Obj)} {w : World} (H : Holds P E A h w) {n : Nat} {es : Array MapEntry} {clock : Nat} (hg : getB h n = some (.map es clock)) :
    ∃ (esl : Array MapEntry) (c' : Nat), SameKV esl es ∧ loose esl c' = false ∧ w.heap[E.β n]? = some (.map (esl.map (renEntry E)) c') ∧ (∀ x ∈ esl, Sc A x.key ∧ Sc A x.val) ∧ A n := by
  obtain ⟨ha, hs, oc, hoc, hr⟩ := H.blk n _ hg
  simp only [BlkRel] at hr
  split at hr
  · obtain ⟨esl, c', k1, k2, rfl⟩ := hr
    exact ⟨esl, c', k1, (blt_false' _ _).2 k2, hoc, k1.all (p := fun k v => Sc A k ∧ Sc A v) hs, ha⟩
  · rename_i hl
    subst hr
    exact ⟨es, clock, List.Perm.refl _, by simpa using hl, hoc, hs, ha⟩

/-- A block described anew. -/
theorem Holds.reread {E : Env} {A : Nat → Prop} {h : List (Nat × Obj)} {w : World} (H : Holds P E A h w) {d : Nat} {o0 o oc : Obj} (hd : getB h d = some o0) (hsc : ScObj A o) (hoc : w.heap[E.β d]? = some oc) (hr : BlkRel P E d o oc) : Holds P E A (setB h d o) w := by
  refine ⟨fun n x hn => ?_, fun n m x y hn hm' he => ?_⟩
  · rcases getB_setB _ _ _ _ _ hn with ⟨rfl, rfl⟩ | ⟨_, hg⟩
    · exact ⟨(H.blk _ _ hd).1, hsc, oc, hoc, hr⟩
    · exact H.blk n x hg
  · obtain ⟨x', hx'⟩ : ∃ x', getB h n = some x' := by
      rcases getB_setB _ _ _ _ _ hn with ⟨rfl, rfl⟩ | ⟨_, hg⟩
      · exact ⟨_, hd⟩
      · exact ⟨_, hg⟩
    obtain ⟨y', hy'⟩ : ∃ y', getB h m = some y' := by
      rcases getB_setB _ _ _ _ _ hm' with ⟨rfl, rfl⟩ | ⟨_, hg⟩
      · exact ⟨_, hd⟩
      · exact ⟨_, hg⟩
    exact H.inj n m _ _ hx' hy' he

/-- The same step, its heaps described anew. -/
theorem Post.names {E E' : Env} {A : Nat → Prop} {h h1 h' h1' : List (Nat × Obj)} {nx nx' : Nat} {w w' : World} (p : Post P E A h1 nx w E' h1' nx' w') (hn : ∀ n o, getB h1 n = some o → ∃ o', getB h n = some o')
    (hol : Holds P E' (fun n => A n ∨ (nx ≤ n ∧ n < nx')) h' w') (hn' : ∀ n o, getB h' n = some o → ∃ o', getB h1' n = some o') : Post P E A h nx w E' h' nx' w' where
  le := p.le
  even := p.even
  agree := p.agree
  holds := hol
  os := p.os
  tape := p.tape
  output := p.output
  size := p.size
  same b hb hnot := p.same b hb fun n o hno => by
    obtain ⟨o', ho'⟩ := hn n o hno
    exact hnot n o' ho'
  img n o hno := by
    obtain ⟨o1, h1o⟩ := hn' n o hno
    rcases p.img n o1 h1o with ⟨m, o2, h2, e⟩ | h2
    · obtain ⟨o3, h3⟩ := hn m o2 h2
      exact .inl ⟨m, o3, h3, e⟩
    · exact .inr h2

theorem getB_setB_same {h : List (Nat × Obj)} {n : Nat} {o x : Obj} (hg : getB h n = some o) : getB (setB h n x) n = some x := by
  induction h with
  | nil => simp [getB] at hg
  | cons a r ih =>
    obtain ⟨m, y⟩ := a
    simp only [getB] at hg
    simp only [setB]
    by_cases hm : m = n
    · subst hm; simp [getB]
    · rw [if_neg (by simpa using hm)] at hg
      rw [if_neg (by simpa using hm)]
      simp only [getB]
      rw [if_neg (by simpa using hm)]
      exact ih hg

theorem getB_setB_ne {h : List (Nat × Obj)} {n k : Nat} {x : Obj} (hne : k ≠ n) : getB (setB h n x) k = getB h k := by
  induction h with
  | nil => rfl
  | cons a r ih =>
    obtain ⟨m, y⟩ := a
    simp only [setB]
    by_cases hm : m = n
    · subst hm
      rw [if_pos (by simp)]
      simp only [getB]
      rw [if_neg (by simpa using fun e : m = k => hne e.symm), if_neg (by simpa using fun e : m = k => hne e.symm)]
    · rw [if_neg (by simpa using hm)]
      simp only [getB]
      rw [ih]

theorem getB_without_of {h : List (Nat × Obj)} {n : Nat} {o : Obj} (hno : hasName n h = false) : ∀ {g : List (Nat × Obj)}, getB g n = some o → getB (without h g) n = some o
  | [], hg => by cases hg
  | (m, x) :: r, hg => by
    simp only [getB] at hg
    simp only [without]
    split at hg
    · rename_i hm
      obtain rfl := Nat.eq_of_beq_eq_true hm
      rw [if_neg (by rw [hno]; simp)]
      simp only [getB, hm, if_true]
      exact hg
    · rename_i hm
      split
      · exact getB_without_of hno hg
      · simp only [getB, hm]
        exact getB_without_of hno hg

/-- maps.Copy, told: behind it the order of the entries is not known. -/
def orcCopy (g sz : Nat) (f : FuncId) (args : List Value) (S : St) : Option (Value × St) :=
  if Nat.beq f g = true then
    match args with
    | [.map (some d), .map (some s)] =>
      match getB S.heap d, getB S.heap s with
      | some (.map esd _), some (.map ess cs) =>
        if !(Nat.beq d s) && (!(loose ess cs) && (ess.toList.all (fun x => Nat.blt x.born cs && entryOk sz x) && (noDupN (ess.toList.map (·.born)) && (strDistinct (esd.toList ++ ess.toList) && Nat.blt 0 ess.size)))) then
          some (.tuple #[], ⟨setB S.heap d (.map (esd ++ ess) 0), S.next + 2 + 2 * ess.size⟩)
        else none
      | _, _ => none
    | _ => none
  else none

set_option maxHeartbeats 1000000 in
theorem orcCopy_ok (T : CopyText P g fn C tM tT kt et sz z) (hm : P.follows .mixedOrders = true) (hnm : NamesOk P) : OrcOk P (orcCopy g sz) := by
  intro f args S v S' h E A w hg hev hargs H hA
  unfold orcCopy at h
  split at h
  case isFalse => cases h
  rename_i hf
  obtain rfl := Nat.eq_of_beq_eq_true hf
  split at h
  case h_2 => cases h
  rename_i d s
  split at h
  case h_2 => cases h
  rename_i esd cd ess cs hgd hgs
  simp only [Option.ite_none_right_eq_some, Bool.and_eq_true, Bool.not_eq_true', Option.some.injEq, Prod.mk.injEq] at h
  obtain ⟨⟨q1, q2, q3, q4, q5, q6⟩, rfl, rfl⟩ := h
  have hds : d ≠ s := by
    rintro rfl
    simp at q1
  have hpos : 0 < ess.size := Nat.le_of_ble_eq_true q6
  obtain ⟨esl, c', k1, hdl, m1, m2, mA⟩ := H.mapAny2 hgd
  obtain ⟨d1, d2, d3⟩ := strDistinct_append q5
  have hq3 : ∀ x ∈ ess.toList, x.born < cs ∧ entryOk sz x = true := by
    intro x hx
    have := List.all_eq_true.1 q3 x hx
    simp only [Bool.and_eq_true] at this
    exact ⟨Nat.le_of_ble_eq_true this.1, this.2⟩
  have hb1 : ∀ a : Nat, Nat.beq a a = true := fun a => by simp
  have hb2 : ∀ {a b : Nat}, a ≠ b → ¬ Nat.beq a b = true := fun h => by simpa using h
  simp only at hA
  -- the two maps alone, the order of the one written down
  have H1 : Holds P E A (setB S.heap d (.map esl c')) w := H.reread hgd m2 m1 (by simp only [BlkRel, hdl]; simp)
  have hsub : ∀ n o, getB [(d, Obj.map esl c'), (s, Obj.map ess cs)] n = some o → getB (setB S.heap d (.map esl c')) n = some o := by
    intro n o hn
    simp only [getB] at hn
    split at hn
    · rename_i hdn
      obtain rfl := Nat.eq_of_beq_eq_true hdn
      obtain rfl := Option.some.inj hn
      exact getB_setB_same hgd
    · split at hn
      · rename_i hsn
        obtain rfl := Nat.eq_of_beq_eq_true hsn
        obtain rfl := Option.some.inj hn
        rw [getB_setB_ne (Ne.symm hds)]; exact hgs
      · cases hn
  have hcalls := copy_exact T hm hnm hds hev q2 hdl (fun x hx => (hq3 x hx).1) (noDupN_spec q4) (fun x hx => (hq3 x hx).2) (allStr_same k1 d3)
    (fun e he e' he' hk => by
      obtain ⟨e2, he2, hk2, _⟩ := k1.mem he'
      exact d2 e2 he2 e he (by rw [hk2, hk]))
    (strDistinct_pairwise d1) hg (H1.sub hsub) hA
  refine hcalls.mono ?_
  rintro en w' ⟨ys, E', rfl, p, _⟩
  refine ⟨E', rfl, ?_, by rw [Sc_tuple]; simp⟩
  have p2 := p.framed2 H1 hsub hA
  have hyl : ys.1.length = ess.size := by simpa using ys.2.length_eq
  -- behind it
  have hget : ∀ n o, n ≠ d → getB S.heap n = some o → getB ([(d, Obj.map (esl.toList ++ stamps c' ys.1).toArray (c' + ys.1.length)), (s, Obj.map ess cs)] ++ without [(d, Obj.map esl c'), (s, Obj.map ess cs)] (setB S.heap d (.map esl c'))) n = some o := by
    intro n o hnd hno
    simp only [List.cons_append, List.nil_append, getB]
    rw [if_neg (hb2 (Ne.symm hnd))]
    by_cases hsn : s = n
    · subst hsn
      rw [if_pos (hb1 s)]
      rw [hgs] at hno; exact hno
    · rw [if_neg (hb2 hsn)]
      refine getB_without_of ?_ (by rw [getB_setB_ne hnd]; exact hno)
      simp only [hasName, Bool.or_false, Bool.or_eq_false_iff]
      exact ⟨Bool.eq_false_iff.2 (hb2 (Ne.symm hnd)), Bool.eq_false_iff.2 (hb2 hsn)⟩
  have hgetd : getB ([(d, Obj.map (esl.toList ++ stamps c' ys.1).toArray (c' + ys.1.length)), (s, Obj.map ess cs)] ++ without [(d, Obj.map esl c'), (s, Obj.map ess cs)] (setB S.heap d (.map esl c'))) d = some (.map (esl.toList ++ stamps c' ys.1).toArray (c' + ys.1.length)) := by
    simp only [List.cons_append, List.nil_append, getB]
    rw [if_pos (hb1 d)]
  have hdl3 : loose (esl.toList ++ stamps c' ys.1).toArray (c' + ys.1.length) = false := by
    have h1 := (blt_false' c' esl.size).1 hdl
    refine (blt_false' _ _).2 ?_
    simp [stamps_length]
    omega
  have hloose : loose (esd ++ ess) 0 = true := by
    unfold loose
    exact Nat.ble_eq_true_of_le (by simp; omega)
  have hscd := (H.blk d _ hgd).2.1
  have hscs := (H.blk s _ hgs).2.1
  refine p2.names (h := S.heap) (h' := setB S.heap d (.map (esd ++ ess) 0)) ?_ ?_ ?_
  · intro n o hn
    rcases getB_setB _ _ _ _ _ hn with ⟨rfl, _⟩ | ⟨_, hg'⟩
    · exact ⟨_, hgd⟩
    · exact ⟨_, hg'⟩
  · refine ⟨fun n o hn => ?_, fun n m o o' hn hm' he => ?_⟩
    · rcases getB_setB _ _ _ _ _ hn with ⟨rfl, rfl⟩ | ⟨hne, hg'⟩
      · obtain ⟨a1, a2, oc, a3, a4⟩ := p2.holds.blk _ _ hgetd
        simp only [BlkRel, hdl3, Bool.false_eq_true, if_false] at a4
        refine ⟨a1, ?_, oc, a3, ?_⟩
        · intro x hx
          rcases Array.mem_append.1 hx with hx | hx
          · exact ⟨Sc_or (hscd x hx).1, Sc_or (hscd x hx).2⟩
          · exact ⟨Sc_or (hscs x hx).1, Sc_or (hscs x hx).2⟩
        · simp only [BlkRel, hloose, if_true]
          refine ⟨_, _, ?_, ?_, a4⟩
          · unfold SameKV
            simp only [List.map_append, Array.toList_append, stamps_kv]
            exact k1.append (ys.2.map _)
          · exact (blt_false' _ _).1 hdl3
      · exact p2.holds.blk n o (hget n o hne hg')
    · obtain ⟨x, hx⟩ : ∃ x, getB ([(d, Obj.map (esl.toList ++ stamps c' ys.1).toArray (c' + ys.1.length)), (s, Obj.map ess cs)] ++ without [(d, Obj.map esl c'), (s, Obj.map ess cs)] (setB S.heap d (.map esl c'))) n = some x := by
        rcases getB_setB _ _ _ _ _ hn with ⟨rfl, _⟩ | ⟨hne, hg'⟩
        · exact ⟨_, hgetd⟩
        · exact ⟨_, hget n o hne hg'⟩
      obtain ⟨y, hy⟩ : ∃ y, getB ([(d, Obj.map (esl.toList ++ stamps c' ys.1).toArray (c' + ys.1.length)), (s, Obj.map ess cs)] ++ without [(d, Obj.map esl c'), (s, Obj.map ess cs)] (setB S.heap d (.map esl c'))) m = some y := by
        rcases getB_setB _ _ _ _ _ hm' with ⟨rfl, _⟩ | ⟨hne, hg'⟩
        · exact ⟨_, hgetd⟩
        · exact ⟨_, hget m o' hne hg'⟩
      exact p2.holds.inj n m x y hx hy he
  · intro n o hn
    rcases getB_setB _ _ _ _ _ hn with ⟨rfl, _⟩ | ⟨hne, hg'⟩
    · exact ⟨_, hgetd⟩
    · exact ⟨_, hget n o hne hg'⟩

end
end Go.Dam
