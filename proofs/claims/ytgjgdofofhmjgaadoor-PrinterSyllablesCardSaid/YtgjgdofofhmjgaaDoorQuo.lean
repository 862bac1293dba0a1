/-
  A part of the proof that the law PrinterSyllables (chapter 20) returns true for every syllable: the walk of functions of the program, for every string.
-/
import Derived.Test.YtgjgdofofhmjgaaDoorBld
import Derived.Test.YtgjgdofofhmjgaaDoorShf
import Derived.BigCall
import Derived.StillTail
import Derived.Test.YtgjgdofofhmjgaaDoorDamM
namespace Go.Proofs.YtgjgdofofhmjgaaDoor
open Go.RowKit

def hexDigit (n : Nat) : UInt8 := if n < 10 then (48 + n).toUInt8 else (87 + n).toUInt8
def esc (c : UInt8) : List UInt8 :=
  if c = 10 then [92, 110] else if c = 9 then [92, 116] else if c = 92 then [92, 92] else if c = 34 then [92, 34]
  else if 32 ≤ c.toNat ∧ c.toNat ≠ 127 then [c] else [92, 120, hexDigit (c.toNat / 16), hexDigit (c.toNat % 16)]

theorem esc_le (c : UInt8) : (esc c).length ≤ 4 := by unfold esc; (repeat' split) <;> simp

set_option maxHeartbeats 400000 in
theorem stands_walk (c : Int) (w : World) : Calls Tryd.prog 32 #[.int .u8 c] w fun e w' => e = .returned (.bool (decide (32 ≤ c) && decide (c ≠ 127) && decide (c ≠ 34) && decide (c ≠ 92))) ∧ w' = w := by
  go_enter Tryd.func32, Tryd.ntmps32
  by_cases h1 : 32 ≤ c <;> by_cases h2 : c = 127 <;> by_cases h3 : c = 34 <;> by_cases h4 : c = 92
  all_goals (try subst h2); (try subst h3); (try subst h4)
  all_goals first | omega | skip
  all_goals go_wp2
  all_goals go_ret
  all_goals simp_all

theorem bld_alloc {B b : Nat} {p : Value} {bs : List Value} {w : World} (h : Lib.BuilderAt 68 5 B b p bs w) (o : Obj) : Lib.BuilderAt 68 5 B b p bs (w.alloc o) := by
  have hlt := h.lt
  obtain ⟨hB, v, hbk, hown, hne⟩ := h
  exact ⟨hB, v, by rw [Lib.alloc_old w o b hlt]; exact hbk, hown.alloc _, hne⟩

theorem isBld_alloc {B b : Nat} {bs : List Value} {w : World} (h : Lib.IsBuilder 68 5 B b bs w) (o : Obj) : Lib.IsBuilder 68 5 B b bs (w.alloc o) :=
  h.imp (fun h => bld_alloc h o) (fun h => bld_alloc h o)

theorem isBld_drew {B b : Nat} {bs : List Value} {w : World} (h : Lib.IsBuilder 68 5 B b bs w) : Lib.IsBuilder 68 5 B b bs w.drew :=
  h.imp (fun h => h.drew) (fun h => h.drew)

/-- What has been written behind k bytes. -/
def done (s : ByteArray) (k : Nat) : List UInt8 := 34 :: (s.data.toList.take k).flatMap esc

theorem done_succ (s : ByteArray) (k : Nat) (h : k < s.size) : done s (k + 1) = done s k ++ esc s[k] := by
  have h' : k < s.data.toList.length := by simpa using h
  unfold done
  rw [List.take_succ_eq_append_getElem h', List.flatMap_append]
  simp
  rfl

theorem done_le (s : ByteArray) (k : Nat) : (done s k).length ≤ 1 + 4 * s.size := by
  have key : ∀ l : List UInt8, (l.flatMap esc).length ≤ 4 * l.length := by
    intro l
    induction l with
    | nil => simp
    | cons a r ih => have := esc_le a; simp only [List.flatMap_cons, List.length_append, List.length_cons]; omega
  have := key (s.data.toList.take k)
  have h2 : (s.data.toList.take k).length ≤ s.size := by
    have : s.data.toList.length = s.size := by simp
    rw [List.length_take]; omega
  unfold done
  simp only [List.length_cons]
  omega

def ix (c : UInt8) : Int := Lib.indexByte [10, 9, 92, 34] c
def standsB (c : Int) : Bool := decide (32 ≤ c) && decide (c ≠ 127) && decide (c ≠ 34) && decide (c ≠ 92)

theorem stands_is (c : Int) (w : World) (b : Bool) (h : standsB c = b) : Calls Tryd.prog 32 #[.int .u8 c] w fun e w' => e = .returned (.bool b) ∧ w' = w := by
  rw [← h]; exact stands_walk c w

theorem esc_cases (c : UInt8) : (ix c = 0 ∧ esc c = [92, 110]) ∨ (ix c = 1 ∧ esc c = [92, 116]) ∨ (ix c = 2 ∧ esc c = [92, 92]) ∨ (ix c = 3 ∧ esc c = [92, 34]) ∨
    (ix c = -1 ∧ standsB c.toNat = true ∧ esc c = [c]) ∨ (ix c = -1 ∧ standsB c.toNat = false ∧ (c.toNat < 32 ∨ c.toNat = 127) ∧ esc c = [92, 120, hexDigit (c.toNat / 16), hexDigit (c.toNat % 16)]) := by
  by_cases h1 : c = 10
  · subst h1; left; decide
  by_cases h2 : c = 9
  · subst h2; right; left; decide
  by_cases h3 : c = 92
  · subst h3; right; right; left; decide
  by_cases h4 : c = 34
  · subst h4; right; right; right; left; decide
  have hix : ix c = -1 := by
    have e1 : (10 : UInt8) ≠ c := fun e => h1 e.symm
    have e2 : (9 : UInt8) ≠ c := fun e => h2 e.symm
    have e3 : (92 : UInt8) ≠ c := fun e => h3 e.symm
    have e4 : (34 : UInt8) ≠ c := fun e => h4 e.symm
    simp [ix, Lib.indexByte, e1, e2, e3, e4]
  have n3 : c.toNat ≠ 92 := fun e => h3 (UInt8.toNat_inj.1 (by rw [e]; rfl))
  have n4 : c.toNat ≠ 34 := fun e => h4 (UInt8.toNat_inj.1 (by rw [e]; rfl))
  right; right; right; right
  by_cases h5 : 32 ≤ c.toNat ∧ c.toNat ≠ 127
  · left
    refine ⟨hix, ?_, ?_⟩
    · have : (c.toNat : Int) ≠ 127 := by omega
      have : (c.toNat : Int) ≠ 34 := by omega
      have : (c.toNat : Int) ≠ 92 := by omega
      have : (32 : Int) ≤ c.toNat := by omega
      simp [standsB, *]
    · simp [esc, h1, h2, h3, h4, h5]
  · right
    refine ⟨hix, ?_, by omega, ?_⟩
    · unfold standsB
      by_cases h6 : c.toNat = 127
      · simp [h6]
      · have : ¬ ((32 : Int) ≤ c.toNat) := by omega
        simp [this]
    · simp only [esc, if_neg h1, if_neg h2, if_neg h3, if_neg h4, if_neg h5]

def tmpOrConst : Operand → Bool
  | .tmp _ | .const _ => true
  | _ => false

/-- Operations that ask nothing of the heap, one behind the other. -/
def pureRun (P : Program) : List Oper → List Value → Option (List Value)
  | [], tm => some tm
  | o :: r, tm =>
    match o.guard, o.op.operands.toList.all tmpOrConst, Dam.purely P (execOp (Dam.aeval tm) o) with
    | none, true, some (.value v) => pureRun P r (Dam.putD tm o.dst v)
    | _, _, _ => none

theorem put_toArray (tm : List Value) (dst : Option Tmp) (v : Value) (a : Act) (h : a.tmps = tm.toArray) : (a.put dst v).tmps = (Dam.putD tm dst v).toArray := by
  have key : ∀ (l : List Value) (n : Nat), Dam.setNth l n v = l.set n v := by
    intro l
    induction l with
    | nil => intro n; rfl
    | cons x r ih => intro n; cases n with
      | zero => rfl
      | succ n => simp [Dam.setNth, ih]
  cases dst with
  | none => exact h
  | some d => simp only [Act.put, Dam.putD, h, key]; simp

theorem still_pure {P : Program} {ops : Array Oper} {w : World} {Q : Act → Prop} : ∀ {l : List Oper} {tm tm' : List Value} {a : Act}, pureRun P l tm = some tm' → (∀ o ∈ l, ∀ cs b, o.op ≠ .select cs b) → a.tmps = tm.toArray →
    (∀ a', a'.tmps = tm'.toArray → a'.defers = a.defers → Q a') → wpStill P ops w Q l a
  | [], tm, tm', a, h, _, ha, hQ => by
    simp only [pureRun, Option.some.injEq] at h; subst h
    exact hQ a ha rfl
  | o :: r, tm, tm', a, h, hsel, ha, hQ => by
    simp only [pureRun] at h
    split at h
    · rename_i v hg hops hv
      have he : execOp a.eval o = execOp (Dam.aeval tm) o := execOp_congr o (hsel o (by simp)) fun x hx => by
        have := List.all_eq_true.1 hops x (by simpa using hx)
        cases x with
        | tmp t => simp [Act.eval, Dam.aeval, ha, Dam.nth_get]
        | const v => rfl
        | _ => simp [tmpOrConst] at this
      unfold wpStill
      rw [if_pos (by simp [Region.wanted, hg])]
      unfold Oper.still
      rw [he, Dam.run_purely hv w]
      refine ⟨rfl, still_pure h (fun o' ho' => hsel o' (by simp [ho'])) (put_toArray tm o.dst v a ha) fun a' h1 h2 => hQ a' h1 (h2.trans ?_)⟩
      unfold Act.put; split <;> rfl
    · simp at h

def setAll (tm : List Value) : List (Nat × Value) → List Value
  | [] => tm
  | (i, v) :: r => setAll (Dam.setNth tm i v) r

theorem still_pure_sets {P : Program} {ops : Array Oper} {w : World} {Q : Act → Prop} {l : List Oper} {tm : List Value} {a : Act} (sets : List (Nat × Value)) (ha : a.tmps = tm.toArray) (h : pureRun P l tm = some (setAll tm sets)) (hsel : ∀ o ∈ l, ∀ cs b, o.op ≠ .select cs b)
    (hQ : ∀ a', a'.tmps = (setAll tm sets).toArray → a'.defers = a.defers → Q a') : wpStill P ops w Q l a := still_pure h hsel ha hQ

set_option maxHeartbeats 4000000 in
set_option maxRecDepth 1000000 in
theorem quote_walk (s : ByteArray) (w : World) (hs : s.size ≤ 4096) :
    Calls Tryd.prog 12 #[.string s] w fun e w' => e = .returned (.tuple #[.string ⟨(done s s.size ++ [34]).toArray⟩, .int .i64 0]) ∧ Below w.heap.size w w' := by
  go_enter Tryd.func12, Tryd.ntmps12
  have hs2 : ¬ (4096 : Int) < s.size := by omega
  go_wp2_with (go_at_call 29; refine (writeByte w.heap.size w.heap.size [] 34 _ (Lib.fresh_isBuilder 68 5 w) (by decide) (by simp)).mono ?_)
  rintro e w1 rfl h1 b1
  go_wp2
  go_loopw [14] (fun v wr => ∃ k : Nat, k ≤ s.size ∧ v = .int .i64 k ∧ Lib.IsBuilder 68 5 w.heap.size w.heap.size (Lib.byteCells (done s k)) wr ∧ Below w.heap.size w wr) (fun v _ => s.size - (intOf v).toNat)
  case atStart =>
    exact ⟨0, Nat.zero_le _, rfl, Or.inr (by simpa [Lib.byteCells, done] using h1), ((Below.refl _ w).alloc (Nat.le_refl _) _).trans b1⟩
  case round =>
    obtain ⟨k, hk, rfl, hI, hb⟩ := hrel
    have hlen := done_le s k
    have hsz := hb.size
    by_cases hlt : k < s.size
    · have hlt' : (k : Int) < s.size := by omega
      have hd := done_succ s k hlt
      have hesc := esc_cases s[k]
      unfold ix at hesc
      rcases hesc with ⟨hix, he⟩ | ⟨hix, he⟩ | ⟨hix, he⟩ | ⟨hix, he⟩ | ⟨hix, hst, he⟩ | ⟨hix, hst, hc, he⟩
      case inr.inr.inr.inr.inr =>
        have hc2 : s[k].toNat < 256 := s[k].toNat_lt
        go_wp2_with (first
          | (go_at_call 30; refine (Tryd.strings_IndexByte _ _ _).mono ?_)
          | (go_at_call 32; refine (stands_is _ _ _ hst).mono ?_; rintro e w2 ⟨rfl, rfl⟩)
          | (go_at_call 31; refine (writeString w.heap.size w.heap.size _ _ _ (isBld_drew hI) (by rw [Lib.byteCells_length]; simp [ByteArray.size]; omega) (by simp; omega)).mono ?_))
        obtain ⟨n, hn⟩ : ∃ n, s[k].toNat = n := ⟨_, rfl⟩
        rw [hn] at hc he ⊢
        clear hst hc2
        refine wp_region_still_tail 14 (by kernel_rfl) (by kernel_rfl) ?_
        refine still_pure_sets [(22, .int .u8 n), (23, .int .u8 (n / 16 : Nat)), (24, .int .u8 n), (25, .int .u8 (n / 16 : Nat)), (26, .int .u8 (n / 16 + 1 : Nat)), (27, .string ⟨#[hexDigit (n / 16)]⟩), (28, .string ⟨#[92, 120, hexDigit (n / 16)]⟩), (29, .int .u8 n), (30, .int .u8 (n % 16 : Nat)), (31, .int .u8 n), (32, .int .u8 (n % 16 : Nat)), (33, .int .u8 (n % 16 + 1 : Nat)), (34, .string ⟨#[hexDigit (n % 16)]⟩), (35, .string ⟨#[92, 120, hexDigit (n / 16), hexDigit (n % 16)]⟩)] rfl ?hrun ?hsel ?_
        case hrun =>
          rcases (by omega : n = 0 ∨ n = 1 ∨ n = 2 ∨ n = 3 ∨ n = 4 ∨ n = 5 ∨ n = 6 ∨ n = 7 ∨ n = 8 ∨ n = 9 ∨ n = 10 ∨ n = 11 ∨ n = 12 ∨ n = 13 ∨ n = 14 ∨ n = 15 ∨ n = 16 ∨ n = 17 ∨ n = 18 ∨ n = 19 ∨ n = 20 ∨ n = 21 ∨ n = 22 ∨ n = 23 ∨ n = 24 ∨ n = 25 ∨ n = 26 ∨ n = 27 ∨ n = 28 ∨ n = 29 ∨ n = 30 ∨ n = 31 ∨ n = 127) with rfl | rfl | rfl | rfl | rfl | rfl | rfl | rfl | rfl | rfl | rfl | rfl | rfl | rfl | rfl | rfl | rfl | rfl | rfl | rfl | rfl | rfl | rfl | rfl | rfl | rfl | rfl | rfl | rfl | rfl | rfl | rfl | rfl
          all_goals kernel_rfl
        case hsel =>
          intro o ho cs b
          simp only [List.take_succ_cons, List.take_zero, List.mem_cons, List.not_mem_nil, or_false] at ho
          rcases ho with rfl | rfl | rfl | rfl | rfl | rfl | rfl | rfl | rfl | rfl | rfl | rfl | rfl | rfl
          all_goals simp
        intro a' ha' hd'
        obtain ⟨tmps', defers'⟩ := a'
        simp only [setAll, Dam.setNth] at ha' hd'
        subst ha'; subst hd'
        simp only [List.drop_succ_cons, List.drop_zero]
        change wpList _ _ _ _ _ w2.drew
        have hI2 := isBld_drew hI
        have hb2 : Below w.heap.size w w2.drew := hb.drew
        generalize w2.drew = w3 at hI2 hb2 ⊢
        go_wp2_with (first
          | (go_at_call 31; refine (writeString w.heap.size w.heap.size _ _ _ hI2 (by rw [Lib.byteCells_length]; simp [ByteArray.size]; omega) hb2.size).mono ?_))
        rintro e w4 ⟨rfl, h1, b1⟩
        go_wp2
        go_roundw
        all_goals first
          | (refine ⟨k + 1, hlt, ?_, Or.inr (by rw [hd, Lib.byteCells_append, he]; exact h1), hb2.trans b1⟩; go_num)
          | (simp [intOf]; omega)
      case inr.inr.inr.inr.inl =>
        go_wp2_with (first
          | (go_at_call 30; refine (Tryd.strings_IndexByte _ _ _).mono ?_)
          | (go_at_call 32; refine (stands_is _ _ _ hst).mono ?_; rintro e w2 ⟨rfl, rfl⟩)
          | (go_at_call 29; refine (writeByte w.heap.size w.heap.size _ _ _ hI (by rw [Lib.byteCells_length]; omega) (by omega)).mono ?_))
        rintro e w1 ⟨rfl, h1, b1⟩
        go_wp2
        go_roundw
        all_goals first
          | (refine ⟨k + 1, hlt, ?_, Or.inr (by rw [hd, Lib.byteCells_append, he]; exact h1), hb.trans b1⟩; go_num)
          | (simp [intOf]; omega)
      all_goals
        go_wp2_with (first
          | (go_at_call 30; refine (Tryd.strings_IndexByte _ _ _).mono ?_)
          | (go_at_call 31; refine (writeString w.heap.size w.heap.size _ _ _ (isBld_alloc hI _) (by rw [Lib.byteCells_length]; simp [ByteArray.size]; omega) (by simp; omega)).mono ?_))
      all_goals rintro e w1 ⟨rfl, h1, b1⟩
      all_goals go_wp2
      all_goals go_roundw
      all_goals first
        | (refine ⟨k + 1, hlt, ?_, Or.inr (by rw [hd, Lib.byteCells_append, he]; exact h1), (hb.alloc hb.size _).trans b1⟩; go_num)
        | (simp [intOf]; omega)
    · have hlt' : ¬ (k : Int) < s.size := by omega
      go_wp2_with (first
        | (go_at_call 29; refine (writeByte w.heap.size w.heap.size _ 34 _ hI (by rw [Lib.byteCells_length]; omega) hb.size).mono ?_))
      rintro e w1 rfl h1 b1
      obtain rfl : k = s.size := by omega
      go_wp2_with (first
        | (go_at_call 33; refine (Tryd.Builder_String_any w.heap.size w.heap.size (done s s.size ++ [34]) _ (Or.inr (by rw [Lib.byteCells_append]; exact h1)) (by have := b1.size; omega)).mono ?_))
      rintro e w2 ⟨rfl, b2⟩
      go_wp2
      go_ret2
      exact ⟨rfl, (hb.trans b1).trans b2⟩
end Go.Proofs.YtgjgdofofhmjgaaDoor
