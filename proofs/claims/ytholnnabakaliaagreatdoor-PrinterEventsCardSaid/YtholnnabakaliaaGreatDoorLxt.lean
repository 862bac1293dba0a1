/-
  A part of the proof that the law PrinterEvents (chapter 20) returns true for every event: walks of the program's functions, and runs of them in the kernel by the own evaluator.
-/
import Derived.Test.YtholnnabakaliaaGreatDoorLxa
import Derived.Test.YtholnnabakaliaaGreatDoorShf
import Derived.BigCall
import Derived.StillTail
import Derived.Test.YtholnnabakaliaaGreatDoorDamD
import Derived.Test.YtholnnabakaliaaGreatDoorBod
import Derived.Deep.RegionWith
import Derived.Deep.RegionHeld
import Derived.WalkSpells
import Derived.Test.YtholnnabakaliaaGreatDoorLwd
import Derived.Test.YtholnnabakaliaaGreatDoorCkf
namespace Go.Proofs.YtholnnabakaliaaGreatDoor
open Go.RowKit

def mk (l : List UInt8) : ByteArray := ⟨l.toArray⟩
def esc (c : UInt8) : List UInt8 :=
  if c = 10 then [92, 110] else if c = 9 then [92, 116] else if c = 92 then [92, 92] else if c = 34 then [92, 34]
  else if 32 ≤ c.toNat ∧ c.toNat ≠ 127 then [c] else [92, 120, hexDigit (c.toNat / 16), hexDigit (c.toNat % 16)]
def quoteL (l : List UInt8) : List UInt8 := 34 :: (l.flatMap esc ++ [34])

theorem esc_form (c : UInt8) : (esc c = [c] ∧ 32 ≤ c.toNat ∧ c.toNat ≠ 127 ∧ c.toNat ≠ 34 ∧ c.toNat ≠ 92) ∨
    (∃ x : UInt8, esc c = [92, x] ∧ ((x = 110 ∧ c.toNat = 10) ∨ (x = 116 ∧ c.toNat = 9) ∨ (x = 92 ∧ c.toNat = 92) ∨ (x = 34 ∧ c.toNat = 34))) ∨
    esc c = [92, 120, hexDigit (c.toNat / 16), hexDigit (c.toNat % 16)] := by
  by_cases h1 : c = 10
  · subst h1; exact .inr (.inl ⟨110, rfl, .inl ⟨rfl, rfl⟩⟩)
  by_cases h2 : c = 9
  · subst h2; exact .inr (.inl ⟨116, rfl, .inr (.inl ⟨rfl, rfl⟩)⟩)
  by_cases h3 : c = 92
  · subst h3; exact .inr (.inl ⟨92, rfl, .inr (.inr (.inl ⟨rfl, rfl⟩))⟩)
  by_cases h4 : c = 34
  · subst h4; exact .inr (.inl ⟨34, rfl, .inr (.inr (.inr ⟨rfl, rfl⟩))⟩)
  have n3 : c.toNat ≠ 92 := fun e => h3 (UInt8.toNat_inj.1 (by rw [e]; rfl))
  have n4 : c.toNat ≠ 34 := fun e => h4 (UInt8.toNat_inj.1 (by rw [e]; rfl))
  by_cases h5 : 32 ≤ c.toNat ∧ c.toNat ≠ 127
  · exact .inl ⟨by simp [esc, h1, h2, h3, h4, h5], h5.1, h5.2, n4, n3⟩
  · exact .inr (.inr (by simp only [esc, if_neg h1, if_neg h2, if_neg h3, if_neg h4, if_neg h5]))

def standsB (c : Int) : Bool := decide (32 ≤ c) && decide (c ≠ 127) && decide (c ≠ 34) && decide (c ≠ 92)

set_option maxHeartbeats 400000 in
theorem stands_walk (c : Int) (w : World) : Calls Tryz.prog 89 #[.int .u8 c] w fun e w' => e = .returned (.bool (decide (32 ≤ c) && decide (c ≠ 127) && decide (c ≠ 34) && decide (c ≠ 92))) ∧ w' = w := by
  go_enter Tryz.func89, Tryz.ntmps89
  by_cases h1 : 32 ≤ c <;> by_cases h2 : c = 127 <;> by_cases h3 : c = 34 <;> by_cases h4 : c = 92
  all_goals (try subst h2); (try subst h3); (try subst h4)
  all_goals first | omega | skip
  all_goals go_wp2
  all_goals go_ret
  all_goals simp_all
theorem stands_is (c : Int) (w : World) (b : Bool) (h : standsB c = b) : Calls Tryz.prog 89 #[.int .u8 c] w fun e w' => e = .returned (.bool b) ∧ w' = w := by
  rw [← h]; exact stands_walk c w

set_option maxHeartbeats 4000000 in
set_option maxRecDepth 100000 in
theorem bld_len (B b : Nat) (bs : List Value) (w : World) (h : Lib.IsBuilder 113 5 B b bs w) : Calls Tryz.prog 115 #[.pointer (some ⟨b, 0, none⟩)] w fun r w' => r = .returned (.int .i64 bs.length) ∧ w' = w := by
  have key : ∃ ao c, w.cell? ⟨b, 1, none⟩ = some (.slice ao bs.length c) := by
    rcases h with h | h
    all_goals
      obtain ⟨hB, v, hbk, hown, hne⟩ := h
      rcases hown.2 with ⟨hv, h0⟩ | ⟨g, cap, cur, hv, _⟩
      · exact ⟨none, 0, by rw [Lib.cell_of_heap hbk]; simp [hv, h0]⟩
      · exact ⟨some ⟨g, 0, none⟩, cap, by rw [Lib.cell_of_heap hbk]; simp [hv]⟩
  obtain ⟨ao, c, hc⟩ := key
  clear h
  go_enter Tryz.func115, Tryz.ntmps115
  go_wp2
  go_ret
  exact ⟨rfl, rfl⟩

theorem size_list (s : ByteArray) : s.data.toList.length = s.size := by rw [Array.length_toList]; rfl
theorem at_list {s : ByteArray} (k : Nat) (h : k < s.size) : s.data.toList[k]? = some s[k] := by
  have hk : k < s.data.toList.length := by rw [size_list]; exact h
  rw [List.getElem?_eq_getElem hk]
  rfl
/-- A byte of a text whose rest is known. -/
theorem byte_at {s : ByteArray} {a : Nat} {y : List UInt8} (hd : s.data.toList.drop a = y) (i : Nat) {x : UInt8} (hx : y[i]? = some x) : ∃ h : a + i < s.size, s[a + i] = x := by
  have hg : s.data.toList[a + i]? = some x := by rw [← List.getElem?_drop, hd]; exact hx
  have hlt : a + i < s.size := by rw [← size_list]; exact (List.getElem?_eq_some_iff.1 hg).1
  refine ⟨hlt, ?_⟩
  rw [at_list _ hlt] at hg
  exact Option.some.inj hg

def encLen (bytes : List UInt8) (k : Nat) : Nat := ((bytes.take k).flatMap esc).length
theorem enc_drop {s : ByteArray} {a : Nat} {bytes rest : List UInt8} (hd : s.data.toList.drop a = quoteL bytes ++ rest) (k : Nat) : s.data.toList.drop (a + 1 + encLen bytes k) = (bytes.drop k).flatMap esc ++ (34 :: rest) := by
  have h1 : quoteL bytes ++ rest = (34 :: (bytes.take k).flatMap esc) ++ ((bytes.drop k).flatMap esc ++ (34 :: rest)) := by
    conv => lhs; rw [quoteL, ← List.take_append_drop k bytes, List.flatMap_append]
    simp
  rw [show a + 1 + encLen bytes k = a + (34 :: (bytes.take k).flatMap esc).length by simp [encLen]; omega, ← List.drop_drop, hd, h1]
  simp
theorem encLen_succ {bytes : List UInt8} {k : Nat} (h : k < bytes.length) : encLen bytes (k + 1) = encLen bytes k + (esc bytes[k]).length := by
  unfold encLen
  rw [List.take_succ_eq_append_getElem h, List.flatMap_append]
  simp
theorem esc_le (c : UInt8) : (esc c).length ≤ 4 := by unfold esc; (repeat' split) <;> simp
end Go.Proofs.YtholnnabakaliaaGreatDoor

namespace Go.Proofs.YtholnnabakaliaaGreatDoor
open Go.RowKit

theorem bld_alloc {B b : Nat} {p : Value} {bs : List Value} {w : World} (h : Lib.BuilderAt 113 5 B b p bs w) (o : Obj) : Lib.BuilderAt 113 5 B b p bs (w.alloc o) := by
  have hlt := h.lt
  obtain ⟨hB, v, hbk, hown, hne⟩ := h
  exact ⟨hB, v, by rw [Lib.alloc_old w o b hlt]; exact hbk, hown.alloc _, hne⟩

theorem isBld_alloc {B b : Nat} {bs : List Value} {w : World} (h : Lib.IsBuilder 113 5 B b bs w) (o : Obj) : Lib.IsBuilder 113 5 B b bs (w.alloc o) :=
  h.imp (fun h => bld_alloc h o) (fun h => bld_alloc h o)

theorem isBld_drew {B b : Nat} {bs : List Value} {w : World} (h : Lib.IsBuilder 113 5 B b bs w) : Lib.IsBuilder 113 5 B b bs w.drew :=
  h.imp (fun h => h.drew) (fun h => h.drew)

/-- What has been written behind k bytes. -/
def done (s : ByteArray) (k : Nat) : List UInt8 := 34 :: (s.data.toList.take k).flatMap esc

theorem done_succ (s : ByteArray) (k : Nat) (h : k < s.size) : done s (k + 1) = done s k ++ esc s[k] := by
  have h' : k < s.data.toList.length := by simpa using h
  unfold done
  rw [List.take_succ_eq_append_getElem h', List.flatMap_append]
  simp
  rfl

theorem done_le (s : ByteArray) (k : Nat) : (done s k).length ≤ 1 + 4 * s.size := by
  have key : ∀ l : List UInt8, (l.flatMap esc).length ≤ 4 * l.length := by
    intro l
    induction l with
    | nil => simp
    | cons a r ih => have := esc_le a; simp only [List.flatMap_cons, List.length_append, List.length_cons]; omega
  have := key (s.data.toList.take k)
  have h2 : (s.data.toList.take k).length ≤ s.size := by
    have : s.data.toList.length = s.size := by simp
    rw [List.length_take]; omega
  unfold done
  simp only [List.length_cons]
  omega

def ix (c : UInt8) : Int := Lib.indexByte [10, 9, 92, 34] c
theorem esc_cases (c : UInt8) : (ix c = 0 ∧ esc c = [92, 110]) ∨ (ix c = 1 ∧ esc c = [92, 116]) ∨ (ix c = 2 ∧ esc c = [92, 92]) ∨ (ix c = 3 ∧ esc c = [92, 34]) ∨
    (ix c = -1 ∧ standsB c.toNat = true ∧ esc c = [c]) ∨ (ix c = -1 ∧ standsB c.toNat = false ∧ (c.toNat < 32 ∨ c.toNat = 127) ∧ esc c = [92, 120, hexDigit (c.toNat / 16), hexDigit (c.toNat % 16)]) := by
  by_cases h1 : c = 10
  · subst h1; left; decide
  by_cases h2 : c = 9
  · subst h2; right; left; decide
  by_cases h3 : c = 92
  · subst h3; right; right; left; decide
  by_cases h4 : c = 34
  · subst h4; right; right; right; left; decide
  have hix : ix c = -1 := by
    have e1 : (10 : UInt8) ≠ c := fun e => h1 e.symm
    have e2 : (9 : UInt8) ≠ c := fun e => h2 e.symm
    have e3 : (92 : UInt8) ≠ c := fun e => h3 e.symm
    have e4 : (34 : UInt8) ≠ c := fun e => h4 e.symm
    simp [ix, Lib.indexByte, e1, e2, e3, e4]
  have n3 : c.toNat ≠ 92 := fun e => h3 (UInt8.toNat_inj.1 (by rw [e]; rfl))
  have n4 : c.toNat ≠ 34 := fun e => h4 (UInt8.toNat_inj.1 (by rw [e]; rfl))
  right; right; right; right
  by_cases h5 : 32 ≤ c.toNat ∧ c.toNat ≠ 127
  · left
    refine ⟨hix, ?_, ?_⟩
    · have : (c.toNat : Int) ≠ 127 := by omega
      have : (c.toNat : Int) ≠ 34 := by omega
      have : (c.toNat : Int) ≠ 92 := by omega
      have : (32 : Int) ≤ c.toNat := by omega
      simp [standsB, *]
    · simp [esc, h1, h2, h3, h4, h5]
  · right
    refine ⟨hix, ?_, by omega, ?_⟩
    · unfold standsB
      by_cases h6 : c.toNat = 127
      · simp [h6]
      · have : ¬ ((32 : Int) ≤ c.toNat) := by omega
        simp [this]
    · simp only [esc, if_neg h1, if_neg h2, if_neg h3, if_neg h4, if_neg h5]

def tmpOrConst : Operand → Bool
  | .tmp _ | .const _ => true
  | _ => false

/-- Operations that ask nothing of the heap, one behind the other. -/
def pureRun (P : Program) : List Oper → List Value → Option (List Value)
  | [], tm => some tm
  | o :: r, tm =>
    match o.guard, o.op.operands.toList.all tmpOrConst, Dam.purely P (execOp (Dam.aeval tm) o) with
    | none, true, some (.value v) => pureRun P r (Dam.putD tm o.dst v)
    | _, _, _ => none

theorem put_toArray (tm : List Value) (dst : Option Tmp) (v : Value) (a : Act) (h : a.tmps = tm.toArray) : (a.put dst v).tmps = (Dam.putD tm dst v).toArray := by
  have key : ∀ (l : List Value) (n : Nat), Dam.setNth l n v = l.set n v := by
    intro l
    induction l with
    | nil => intro n; rfl
    | cons x r ih => intro n; cases n with
      | zero => rfl
      | succ n => simp [Dam.setNth, ih]
  cases dst with
  | none => exact h
  | some d => simp only [Act.put, Dam.putD, h, key]; simp

theorem still_pure {P : Program} {ops : Array Oper} {w : World} {Q : Act → Prop} : ∀ {l : List Oper} {tm tm' : List Value} {a : Act}, pureRun P l tm = some tm' → (∀ o ∈ l, ∀ cs b, o.op ≠ .select cs b) → a.tmps = tm.toArray →
    (∀ a', a'.tmps = tm'.toArray → a'.defers = a.defers → Q a') → wpStill P ops w Q l a
  | [], tm, tm', a, h, _, ha, hQ => by
    simp only [pureRun, Option.some.injEq] at h; subst h
    exact hQ a ha rfl
  | o :: r, tm, tm', a, h, hsel, ha, hQ => by
    simp only [pureRun] at h
    split at h
    · rename_i v hg hops hv
      have he : execOp a.eval o = execOp (Dam.aeval tm) o := execOp_congr o (hsel o (by simp)) fun x hx => by
        have := List.all_eq_true.1 hops x (by simpa using hx)
        cases x with
        | tmp t => simp [Act.eval, Dam.aeval, ha, Dam.nth_get]
        | const v => rfl
        | _ => simp [tmpOrConst] at this
      unfold wpStill
      rw [if_pos (by simp [Region.wanted, hg])]
      unfold Oper.still
      rw [he, Dam.run_purely hv w]
      refine ⟨rfl, still_pure h (fun o' ho' => hsel o' (by simp [ho'])) (put_toArray tm o.dst v a ha) fun a' h1 h2 => hQ a' h1 (h2.trans ?_)⟩
      unfold Act.put; split <;> rfl
    · simp at h

def setAll (tm : List Value) : List (Nat × Value) → List Value
  | [] => tm
  | (i, v) :: r => setAll (Dam.setNth tm i v) r

theorem still_pure_sets {P : Program} {ops : Array Oper} {w : World} {Q : Act → Prop} {l : List Oper} {tm : List Value} {a : Act} (sets : List (Nat × Value)) (ha : a.tmps = tm.toArray) (h : pureRun P l tm = some (setAll tm sets)) (hsel : ∀ o ∈ l, ∀ cs b, o.op ≠ .select cs b)
    (hQ : ∀ a', a'.tmps = (setAll tm sets).toArray → a'.defers = a.defers → Q a') : wpStill P ops w Q l a := still_pure h hsel ha hQ

set_option maxHeartbeats 4000000 in
set_option maxRecDepth 1000000 in
theorem quote_walk (s : ByteArray) (w : World) (hs : s.size ≤ 4096) :
    Calls Tryz.prog 63 #[.string s] w fun e w' => e = .returned (.tuple #[.string ⟨(done s s.size ++ [34]).toArray⟩, .int .i64 0]) ∧ Below w.heap.size w w' := by
  go_enter Tryz.func63, Tryz.ntmps63
  have hs2 : ¬ (4096 : Int) < s.size := by omega
  go_wp2_with (go_at_call 87; refine (writeByte w.heap.size w.heap.size [] 34 _ (Lib.fresh_isBuilder 113 5 w) (by decide) (by simp)).mono ?_)
  rintro e w1 rfl h1 b1
  go_wp2
  go_loopw [14] (fun v wr => ∃ k : Nat, k ≤ s.size ∧ v = .int .i64 k ∧ Lib.IsBuilder 113 5 w.heap.size w.heap.size (Lib.byteCells (done s k)) wr ∧ Below w.heap.size w wr) (fun v _ => s.size - (intOf v).toNat)
  case atStart =>
    exact ⟨0, Nat.zero_le _, rfl, Or.inr (by simpa [Lib.byteCells, done] using h1), ((Below.refl _ w).alloc (Nat.le_refl _) _).trans b1⟩
  case round =>
    obtain ⟨k, hk, rfl, hI, hb⟩ := hrel
    have hlen := done_le s k
    have hsz := hb.size
    by_cases hlt : k < s.size
    · have hlt' : (k : Int) < s.size := by omega
      have hd := done_succ s k hlt
      have hesc := esc_cases s[k]
      unfold ix at hesc
      rcases hesc with ⟨hix, he⟩ | ⟨hix, he⟩ | ⟨hix, he⟩ | ⟨hix, he⟩ | ⟨hix, hst, he⟩ | ⟨hix, hst, hc, he⟩
      case inr.inr.inr.inr.inr =>
        have hc2 : s[k].toNat < 256 := s[k].toNat_lt
        go_wp2_with (first
          | (go_at_call 88; refine (Tryz.strings_IndexByte _ _ _).mono ?_)
          | (go_at_call 89; refine (stands_is _ _ _ hst).mono ?_; rintro e w2 ⟨rfl, rfl⟩)
          | (go_at_call 67; refine (writeString w.heap.size w.heap.size _ _ _ (isBld_drew hI) (by rw [Lib.byteCells_length]; simp [ByteArray.size]; omega) (by simp; omega)).mono ?_))
        obtain ⟨n, hn⟩ : ∃ n, s[k].toNat = n := ⟨_, rfl⟩
        rw [hn] at hc he ⊢
        clear hst hc2
        refine wp_region_still_tail 14 (by kernel_rfl) (by kernel_rfl) ?_
        refine still_pure_sets [(22, .int .u8 n), (23, .int .u8 (n / 16 : Nat)), (24, .int .u8 n), (25, .int .u8 (n / 16 : Nat)), (26, .int .u8 (n / 16 + 1 : Nat)), (27, .string ⟨#[hexDigit (n / 16)]⟩), (28, .string ⟨#[92, 120, hexDigit (n / 16)]⟩), (29, .int .u8 n), (30, .int .u8 (n % 16 : Nat)), (31, .int .u8 n), (32, .int .u8 (n % 16 : Nat)), (33, .int .u8 (n % 16 + 1 : Nat)), (34, .string ⟨#[hexDigit (n % 16)]⟩), (35, .string ⟨#[92, 120, hexDigit (n / 16), hexDigit (n % 16)]⟩)] rfl ?hrun ?hsel ?_
        case hrun =>
          rcases (by omega : n = 0 ∨ n = 1 ∨ n = 2 ∨ n = 3 ∨ n = 4 ∨ n = 5 ∨ n = 6 ∨ n = 7 ∨ n = 8 ∨ n = 9 ∨ n = 10 ∨ n = 11 ∨ n = 12 ∨ n = 13 ∨ n = 14 ∨ n = 15 ∨ n = 16 ∨ n = 17 ∨ n = 18 ∨ n = 19 ∨ n = 20 ∨ n = 21 ∨ n = 22 ∨ n = 23 ∨ n = 24 ∨ n = 25 ∨ n = 26 ∨ n = 27 ∨ n = 28 ∨ n = 29 ∨ n = 30 ∨ n = 31 ∨ n = 127) with rfl | rfl | rfl | rfl | rfl | rfl | rfl | rfl | rfl | rfl | rfl | rfl | rfl | rfl | rfl | rfl | rfl | rfl | rfl | rfl | rfl | rfl | rfl | rfl | rfl | rfl | rfl | rfl | rfl | rfl | rfl | rfl | rfl
          all_goals kernel_rfl
        case hsel =>
          intro o ho cs b
          simp only [List.take_succ_cons, List.take_zero, List.mem_cons, List.not_mem_nil, or_false] at ho
          rcases ho with rfl | rfl | rfl | rfl | rfl | rfl | rfl | rfl | rfl | rfl | rfl | rfl | rfl | rfl
          all_goals simp
        intro a' ha' hd'
        obtain ⟨tmps', defers'⟩ := a'
        simp only [setAll, Dam.setNth] at ha' hd'
        subst ha'; subst hd'
        simp only [List.drop_succ_cons, List.drop_zero]
        change wpList _ _ _ _ _ w2.drew
        have hI2 := isBld_drew hI
        have hb2 : Below w.heap.size w w2.drew := hb.drew
        generalize w2.drew = w3 at hI2 hb2 ⊢
        go_wp2_with (first
          | (go_at_call 67; refine (writeString w.heap.size w.heap.size _ _ _ hI2 (by rw [Lib.byteCells_length]; simp [ByteArray.size]; omega) hb2.size).mono ?_))
        rintro e w4 ⟨rfl, h1, b1⟩
        go_wp2
        go_roundw
        all_goals first
          | (refine ⟨k + 1, hlt, ?_, Or.inr (by rw [hd, Lib.byteCells_append, he]; exact h1), hb2.trans b1⟩; go_num)
          | (simp [intOf]; omega)
      case inr.inr.inr.inr.inl =>
        go_wp2_with (first
          | (go_at_call 88; refine (Tryz.strings_IndexByte _ _ _).mono ?_)
          | (go_at_call 89; refine (stands_is _ _ _ hst).mono ?_; rintro e w2 ⟨rfl, rfl⟩)
          | (go_at_call 87; refine (writeByte w.heap.size w.heap.size _ _ _ hI (by rw [Lib.byteCells_length]; omega) (by omega)).mono ?_))
        rintro e w1 ⟨rfl, h1, b1⟩
        go_wp2
        go_roundw
        all_goals first
          | (refine ⟨k + 1, hlt, ?_, Or.inr (by rw [hd, Lib.byteCells_append, he]; exact h1), hb.trans b1⟩; go_num)
          | (simp [intOf]; omega)
      all_goals
        go_wp2_with (first
          | (go_at_call 88; refine (Tryz.strings_IndexByte _ _ _).mono ?_)
          | (go_at_call 67; refine (writeString w.heap.size w.heap.size _ _ _ (isBld_alloc hI _) (by rw [Lib.byteCells_length]; simp [ByteArray.size]; omega) (by simp; omega)).mono ?_))
      all_goals rintro e w1 ⟨rfl, h1, b1⟩
      all_goals go_wp2
      all_goals go_roundw
      all_goals first
        | (refine ⟨k + 1, hlt, ?_, Or.inr (by rw [hd, Lib.byteCells_append, he]; exact h1), (hb.alloc hb.size _).trans b1⟩; go_num)
        | (simp [intOf]; omega)
    · have hlt' : ¬ (k : Int) < s.size := by omega
      go_wp2_with (first
        | (go_at_call 87; refine (writeByte w.heap.size w.heap.size _ 34 _ hI (by rw [Lib.byteCells_length]; omega) hb.size).mono ?_))
      rintro e w1 rfl h1 b1
      obtain rfl : k = s.size := by omega
      go_wp2_with (first
        | (go_at_call 68; refine (Tryz.Builder_String_any w.heap.size w.heap.size (done s s.size ++ [34]) _ (Or.inr (by rw [Lib.byteCells_append]; exact h1)) (by have := b1.size; omega)).mono ?_))
      rintro e w2 ⟨rfl, b2⟩
      go_wp2
      go_ret2
      exact ⟨rfl, (hb.trans b1).trans b2⟩

theorem quote_says (s : ByteArray) (w : World) (hs : s.size ≤ 4096) : Calls Tryz.prog 63 #[.string s] w fun e w' => e = .returned (.tuple #[.string (mk (quoteL s.data.toList)), .int .i64 0]) ∧ Below w.heap.size w w' := by
  have h : done s s.size ++ [34] = quoteL s.data.toList := by
    unfold done quoteL
    rw [List.take_of_length_le (by simp)]
    rfl
  have := quote_walk s w hs
  rw [h] at this
  exact this
end Go.Proofs.YtholnnabakaliaaGreatDoor

namespace Go.Proofs.YtholnnabakaliaaGreatDoor
open Go.RowKit

def quoteB (s : ByteArray) : ByteArray := mkB (quoteL s.data.toList)
def linkL (l : Int) : List UInt8 := if l = 0 then [] else if l = 1 then [45] else [95]
/-- The text of a syllable. -/
def syllL (x : SyllV) : List UInt8 := if x.tx.toList.isEmpty = true ∧ x.ln = 2 then [95] else quoteL x.tx.data.toList ++ linkL x.ln
theorem quoteL_len (s : ByteArray) : (quoteL s.data.toList).length ≤ 2 + 4 * s.size := by
  have h : done s s.size ++ [34] = quoteL s.data.toList := by
    unfold done quoteL
    rw [List.take_of_length_le (by simp)]
    rfl
  have := done_le s s.size
  rw [← h, List.length_append]; simp only [List.length_cons, List.length_nil]; omega
theorem syllL_len (x : SyllV) (h : x.tx.size ≤ 256) : (syllL x).length ≤ 2000 := by
  unfold syllL linkL
  have := quoteL_len x.tx
  split
  · simp
  · rw [List.length_append]; split <;> (try split) <;> simp <;> omega
theorem add_link (s : ByteArray) (hs : s.size ≤ 256) (t : ByteArray) (ht : t.size ≤ 10) (w : World) : (Op.stringOp .add (quoteB s) t).run Tryz.prog w = .ok (.string (quoteB s ++ t)) w :=
  Go.run_string_add_sum (P := Tryz.prog) (w := w) (quoteB s) t (by have := quoteL_len s; unfold quoteB; rw [mkB_size]; omega)
theorem quoteB_cat (s : ByteArray) (t : List UInt8) : quoteB s ++ mkB t = mkB (quoteL s.data.toList ++ t) := mkB_append _ _

set_option maxHeartbeats 1000000 in
theorem quoted_walk (s : ByteArray) (w : World) (hs : s.size ≤ 256) : Calls Tryz.prog 30 #[.string s] w fun e w' => e = .returned (.string (quoteB s)) ∧ Below w.heap.size w w' := by
  have hq : ∀ W, Calls Tryz.prog 63 #[.string s] W fun e w' => e = .returned (.tuple #[.string (quoteB s), .int .i64 0]) ∧ Below W.heap.size W w' := fun W => quote_says s W (by omega)
  generalize quoteB s = z at hq ⊢
  go_enter Tryz.func30, Tryz.ntmps30
  go_wp2_with (go_at_call 63; refine (hq _).mono ?_)
  intro e w1; first | (intro he b1; subst he) | rintro ⟨rfl, b1⟩
  go_wp2
  go_ret
  exact ⟨rfl, b1⟩

set_option maxHeartbeats 1000000 in
theorem lawQuote_walk (s : ByteArray) (w : World) (hs : s.size ≤ 256) : Calls Tryz.prog 62 #[.string s] w fun e w' => e = .returned (.string (quoteB s)) ∧ Below w.heap.size w w' := by
  have hq : ∀ W, Calls Tryz.prog 63 #[.string s] W fun e w' => e = .returned (.tuple #[.string (quoteB s), .int .i64 0]) ∧ Below W.heap.size W w' := fun W => quote_says s W (by omega)
  generalize quoteB s = z at hq ⊢
  go_enter Tryz.func62, Tryz.ntmps62
  go_wp2_with (go_at_call 63; refine (hq _).mono ?_)
  intro e w1; first | (intro he b1; subst he) | rintro ⟨rfl, b1⟩
  go_wp2
  go_ret
  exact ⟨rfl, b1⟩
end Go.Proofs.YtholnnabakaliaaGreatDoor

namespace Go.Proofs.YtholnnabakaliaaGreatDoor
open Go.RowKit

def graceL (g : GraceV) : List UInt8 := (if g.sl = true then [47] else []) ++ pitchL g.p ++ [58] ++ powL g.lg
def GraceOk (g : GraceV) : Prop := pitchE g.p = 0 ∧ 1 ≤ g.lg ∧ g.lg ≤ 6
theorem powL_len {k : Int} (h1 : 1 ≤ k) (h6 : k ≤ 6) : (powL k).length ≤ 2 := by
  have hc : k = 1 ∨ k = 2 ∨ k = 3 ∨ k = 4 ∨ k = 5 ∨ k = 6 := by omega
  rcases hc with rfl | rfl | rfl | rfl | rfl | rfl <;> decide
theorem graceL_len {g : GraceV} (h : GraceOk g) : (graceL g).length ≤ 9 := by
  have h1 := pitchL_len h.1
  have h2 := powL_len h.2.1 h.2.2
  have h3 : (if g.sl = true then [47] else [] : List UInt8).length ≤ 1 := by split <;> simp
  simp only [graceL, List.length_append, List.length_cons, List.length_nil]
  omega
def optL (W : List ByteArray) (n : Int) : List ByteArray := if n = 0 then [] else [wordAt W n]
def wordsO (ar orn dy st be : Int) : List ByteArray := bitsW ar artsW 5 ++ optL ornsW orn ++ optL dynsW dy ++ optL stemsW st ++ optL beamsW be
def wordsB (ar orn dy st be : Int) : List (List UInt8) := (wordsO ar orn dy st be).map fun y => y.data.toList
def blanks (l : List (List UInt8)) : List UInt8 := l.flatMap fun y => 32 :: y
theorem blanks_append (l m : List (List UInt8)) : blanks (l ++ m) = blanks l ++ blanks m := List.flatMap_append
theorem blanks_join {l : List (List UInt8)} (h : l ≠ []) : blanks l = 32 :: joinL l := by
  cases l with
  | nil => exact absurd rfl h
  | cons x r => simp [blanks, joinL]
theorem slot_opt (W : List ByteArray) (n : Int) : slotL W n = blanks ((optL W n).map fun y => y.data.toList) := by
  unfold slotL optL
  split <;> simp [blanks]
theorem wordsT_blanks (ar orn dy st be : Int) : wordsT ar orn dy st be = blanks (wordsB ar orn dy st be) := by
  unfold wordsT wordsB wordsO bitsT
  simp only [List.map_append, blanks_append, ← slot_opt]
  congr 4
  simp [blanks, List.flatMap_map]
/-- The parts of an event's text. -/
def partsL (x : EvV) : List (List UInt8) :=
  (if x.graces = [] then [] else [[103, 114, 97, 99, 101], [40] ++ joinL (x.graces.map graceL) ++ [41]]) ++ [bodyL x] ++
    (if wordsB x.ar x.orn x.dy x.stem x.beam = [] then [] else [[91] ++ joinL (wordsB x.ar x.orn x.dy x.stem x.beam) ++ [93]]) ++ x.lyr.map syllL
def textL (x : EvV) : List UInt8 := joinL (partsL x)
theorem parts_ne (x : EvV) : partsL x ≠ [] := by simp [partsL]
/-- The law's way of the same text. -/
theorem text_law (x : EvV) : textL x = (if x.graces = [] then [] else [103, 114, 97, 99, 101, 32, 40] ++ (blanks (x.graces.map graceL)).drop 1 ++ [41, 32]) ++ bodyL x ++
    (if wordsB x.ar x.orn x.dy x.stem x.beam = [] then [] else [32, 91] ++ (blanks (wordsB x.ar x.orn x.dy x.stem x.beam)).drop 1 ++ [93]) ++ blanks (x.lyr.map syllL) := by
  have hp := blanks_join (parts_ne x)
  have key : (32 : UInt8) :: textL x = 32 :: ((if x.graces = [] then [] else [103, 114, 97, 99, 101, 32, 40] ++ (blanks (x.graces.map graceL)).drop 1 ++ [41, 32]) ++ bodyL x ++
      (if wordsB x.ar x.orn x.dy x.stem x.beam = [] then [] else [32, 91] ++ (blanks (wordsB x.ar x.orn x.dy x.stem x.beam)).drop 1 ++ [93]) ++ blanks (x.lyr.map syllL)) := by
    rw [textL, ← hp]
    unfold partsL
    rw [blanks_append, blanks_append, blanks_append]
    by_cases hg : x.graces = []
    · rw [if_pos hg, if_pos hg]
      by_cases hw : wordsB x.ar x.orn x.dy x.stem x.beam = []
      · rw [if_pos hw, if_pos hw]; simp [blanks]
      · rw [if_neg hw, if_neg hw, blanks_join hw]; simp [blanks]
    · have hg' : x.graces.map graceL ≠ [] := by simpa using hg
      rw [if_neg hg, if_neg hg, blanks_join hg']
      by_cases hw : wordsB x.ar x.orn x.dy x.stem x.beam = []
      · rw [if_pos hw, if_pos hw]; simp [blanks]
      · rw [if_neg hw, if_neg hw, blanks_join hw]; simp [blanks]
  exact (List.cons.inj key).2
end Go.Proofs.YtholnnabakaliaaGreatDoor

namespace Go.Proofs.YtholnnabakaliaaGreatDoor
open Go.RowKit

structure EvOk (x : EvV) : Prop where
  kd : x.kind = 1 ∨ x.kind = 2 ∨ x.kind = 3 ∨ x.kind = 4
  val : x.kind ≠ 3 → valueE x.lg x.dt = 0
  val3 : x.kind = 3 → x.lg = 0 ∧ x.dt = 0
  hp : x.kind = 1 → 0 < x.heads.length
  hn : x.kind ≠ 1 → x.heads.length = 0
  h10 : x.heads.length ≤ 10
  hok : ∀ h ∈ x.heads, HeadOk h
  g8 : x.graces.length ≤ 8
  gok : ∀ g ∈ x.graces, GraceOk g
  l4 : x.lyr.length ≤ 4
  lok : ∀ y ∈ x.lyr, y.tx.size ≤ 256 ∧ 0 ≤ y.ln ∧ y.ln ≤ 2
  ar0 : 0 ≤ x.ar
  ar1 : x.ar ≤ 31
  o0 : 0 ≤ x.orn
  o4 : x.orn ≤ 4
  d0 : 0 ≤ x.dy
  d9 : x.dy ≤ 9
  s0 : 0 ≤ x.stem
  s2 : x.stem ≤ 2
  b0 : 0 ≤ x.beam
  b2 : x.beam ≤ 2

theorem EvOk.value {x : EvV} (h : EvOk x) : valueE x.lg x.dt = 0 := by
  by_cases hk : x.kind = 3
  · obtain ⟨h1, h2⟩ := h.val3 hk
    rw [h1, h2]; decide
  · exact h.val hk
theorem withinE_zero {n m : Int} (h : withinE n m = 0) : 0 ≤ n ∧ n ≤ m := by
  unfold withinE at h; split at h <;> omega
theorem firstE_zero : ∀ {l : List Int}, firstE l = 0 → ∀ e ∈ l, e = 0
  | [], _, e, he => by cases he
  | a :: r, h, e, he => by
    rw [firstE] at h
    by_cases ha : a = 0
    · rw [if_neg (by simp [ha])] at h
      rcases List.mem_cons.1 he with rfl | h'
      · exact ha
      · exact firstE_zero h e h'
    · rw [if_pos ha] at h; exact absurd h ha
theorem headsE_ok : ∀ (l : List HeadV) (last : Int), headsE last l = 0 → ∀ h ∈ l, HeadOk h
  | [], _, _, h, hm => by cases hm
  | a :: r, last, he, h, hm => by
    rw [headsE] at he
    by_cases hw : wellE a = 0
    · rw [if_neg (by simp [hw])] at he
      split at he
      · cases he
      · rcases List.mem_cons.1 hm with rfl | h'
        · unfold wellE at hw
          split at hw
          · cases hw
          · rename_i hp
            have h2 := withinE_zero hw
            exact ⟨by simpa using hp, by omega⟩
        · exact headsE_ok r _ he h h'
    · rw [if_pos hw] at he; exact absurd he hw
theorem gracesE_ok : ∀ (l : List GraceV), gracesE l = 0 → ∀ g ∈ l, GraceOk g
  | [], _, g, hm => by cases hm
  | a :: r, he, g, hm => by
    rw [gracesE] at he
    split at he
    · cases he
    · rename_i hp
      split at he
      · cases he
      · rename_i hl
        rcases List.mem_cons.1 hm with rfl | h'
        · exact ⟨by simpa using hp, by omega, by omega⟩
        · exact gracesE_ok r he g h'
theorem syllsE_ok : ∀ (l : List SyllV), syllsE l = 0 → ∀ y ∈ l, y.tx.size ≤ 256 ∧ 0 ≤ y.ln ∧ y.ln ≤ 2
  | [], _, y, hm => by cases hm
  | a :: r, he, y, hm => by
    rw [syllsE] at he
    by_cases hs : syllE a = 0
    · rw [if_neg (by simp [hs])] at he
      rcases List.mem_cons.1 hm with rfl | h'
      · unfold syllE at hs
        split at hs
        · cases hs
        · split at hs
          · cases hs
          · omega
      · exact syllsE_ok r he y h'
    · rw [if_pos hs] at he; exact absurd he hs

theorem EvOk.of {x : EvV} (h : checkE x = 0) : EvOk x := by
  unfold checkE at h
  split at h
  · rename_i h1; exact absurd h h1
  · split at h
    · cases h
    · rename_i hk
      split at h
      · cases h
      · rename_i hs
        split at h
        · cases h
        · rename_i hv
          have hk' : x.kind = 1 ∨ x.kind = 2 ∨ x.kind = 3 ∨ x.kind = 4 := by
            have : existsB x.kind = true := by simpa using hk
            unfold existsB at this
            simp only [Bool.and_eq_true, decide_eq_true_eq] at this
            omega
          have hv' : x.kind ≠ 3 → valueE x.lg x.dt = 0 := fun hk3 => by
            by_cases hz : valueE x.lg x.dt = 0
            · exact hz
            · exact absurd ⟨hk3, hz⟩ hv
          have hs' : stripSame x = true := by simpa using hs
          by_cases hk1 : x.kind = 1
          · by_cases hp : partsE x = 0
            · rw [if_neg (fun e => e.2 hp)] at h
              have ho := firstE_zero (l := [withinE x.ar 31, withinE x.orn 4, withinE x.dy 9, withinE x.stem 2, withinE x.beam 2]) h
              have q1 := withinE_zero (ho _ (by simp : withinE x.ar 31 ∈ _))
              have q2 := withinE_zero (ho _ (by simp : withinE x.orn 4 ∈ _))
              have q3 := withinE_zero (ho _ (by simp : withinE x.dy 9 ∈ _))
              have q4 := withinE_zero (ho _ (by simp : withinE x.stem 2 ∈ _))
              have q5 := withinE_zero (ho _ (by simp : withinE x.beam 2 ∈ _))
              have hpp := firstE_zero (l := [checkHeadsE x.heads, checkGracesE x.graces, checkLyricsE x.lyr]) hp
              have p1 := hpp _ (by simp : checkHeadsE x.heads ∈ _)
              have p2 := hpp _ (by simp : checkGracesE x.graces ∈ _)
              have p3 := hpp _ (by simp : checkLyricsE x.lyr ∈ _)
              unfold checkHeadsE at p1
              unfold checkGracesE at p2
              unfold checkLyricsE at p3
              split at p1
              · cases p1
              · split at p1
                · cases p1
                · split at p2
                  · cases p2
                  · split at p3
                    · cases p3
                    · split at p3
                      · rename_i hy; exact absurd p3 hy
                      · rename_i hy
                        have hy' : syllsE x.lyr = 0 := by simpa using hy
                        exact ⟨hk', hv', fun e => by omega, fun _ => by omega, fun e => absurd hk1 e, by omega, headsE_ok _ _ p1, by omega, gracesE_ok _ p2, by omega, syllsE_ok _ hy', q1.1, q1.2, q2.1, q2.2, q3.1, q3.2, q4.1, q4.2, q5.1, q5.2⟩
            · rw [if_pos ⟨hk1, hp⟩] at h; exact absurd h hp
          · rw [if_neg (fun e => hk1 e.1)] at h
            have ho := firstE_zero (l := [withinE x.ar 31, withinE x.orn 4, withinE x.dy 9, withinE x.stem 2, withinE x.beam 2]) h
            have q1 := withinE_zero (ho _ (by simp : withinE x.ar 31 ∈ _))
            have q2 := withinE_zero (ho _ (by simp : withinE x.orn 4 ∈ _))
            have q3 := withinE_zero (ho _ (by simp : withinE x.dy 9 ∈ _))
            have q4 := withinE_zero (ho _ (by simp : withinE x.stem 2 ∈ _))
            have q5 := withinE_zero (ho _ (by simp : withinE x.beam 2 ∈ _))
            unfold stripSame at hs'
            rw [if_neg hk1] at hs'
            simp only [Bool.and_eq_true, decide_eq_true_eq] at hs'
            obtain ⟨⟨⟨⟨⟨⟨⟨s1, s2⟩, s3⟩, s4⟩, s5⟩, s6⟩, s7⟩, s8⟩ := hs'
            have z1 : x.heads = [] := List.eq_nil_of_length_eq_zero s6
            have z2 : x.graces = [] := List.eq_nil_of_length_eq_zero s7
            have z3 : x.lyr = [] := List.eq_nil_of_length_eq_zero s8
            refine ⟨hk', hv', fun e => ?_, fun e => absurd e hk1, fun _ => s6, by omega, (by rw [z1]; intro _ h; cases h), by omega, (by rw [z2]; intro _ h; cases h), by omega, (by rw [z3]; intro _ h; cases h), q1.1, q1.2, q2.1, q2.2, q3.1, q3.2, q4.1, q4.2, q5.1, q5.2⟩
            rw [if_pos e] at s1
            simpa using s1
end Go.Proofs.YtholnnabakaliaaGreatDoor

namespace Go.Proofs.YtholnnabakaliaaGreatDoor
open Go.RowKit

/-- The row of the four takers. -/
def takers : Array Value := #[.func (.func 95) #[] #[], .func (.func 96) #[] #[], .func (.func 97) #[] #[], .func (.func 98) #[] #[]]
def takersRow : Obj := .cells takers 149 (0, 0)

/-- What a taker does: it misses, and leaves what was; or it hits. -/
def Misses (F X : Nat) (j : Bool) (w : World) : Prop := ∀ w', Below w.heap.size w w' → Calls Tryz.prog F #[.pointer (some ⟨X, 0, none⟩), .bool j] w' fun r w'' => r = .returned (.bool false) ∧ Below w'.heap.size w' w''
def Hits (F X : Nat) (j : Bool) (w : World) (Q : World → Prop) : Prop := ∀ w', Below w.heap.size w w' → Calls Tryz.prog F #[.pointer (some ⟨X, 0, none⟩), .bool j] w' fun r w'' => r = .returned (.bool true) ∧ Q w''

def takerAt (i : Nat) : Nat := 95 + i

set_option maxHeartbeats 4000000 in
set_option maxRecDepth 100000 in
theorem try_walk (F X Bx Bj : Nat) (j b : Bool) (w : World) (hx : w.cell? ⟨Bx, 0, none⟩ = some (.pointer (some ⟨X, 0, none⟩))) (hj : w.cell? ⟨Bj, 0, none⟩ = some (.bool j)) (Q : World → Prop)
    (hc : Calls Tryz.prog F #[.pointer (some ⟨X, 0, none⟩), .bool j] w fun r w' => r = .returned (.bool b) ∧ Q w') (hF : F = 95 ∨ F = 96 ∨ F = 97 ∨ F = 98) :
    Calls Tryz.prog 103 #[.func (.func F) #[] #[], .pointer (some ⟨Bx, 0, none⟩), .pointer (some ⟨Bj, 0, none⟩)] w fun r w' => r = .returned (.bool b) ∧ Q w' := by
  rcases hF with rfl | rfl | rfl | rfl
  all_goals go_enter Tryz.func103, Tryz.ntmps103
  all_goals go_wp2_with (first
    | (go_at_call 95; refine hc.mono ?_)
    | (go_at_call 96; refine hc.mono ?_)
    | (go_at_call 97; refine hc.mono ?_)
    | (go_at_call 98; refine hc.mono ?_))
  all_goals rintro e w' ⟨rfl, hQ⟩
  all_goals go_wp2
  all_goals go_ret
  all_goals exact ⟨rfl, hQ⟩
end Go.Proofs.YtholnnabakaliaaGreatDoor

namespace Go.Proofs.YtholnnabakaliaaGreatDoor
open Go.RowKit

theorem Misses.step {F X : Nat} {j : Bool} {w w' : World} (h : Misses F X j w) (b : Below w.heap.size w w') : Misses F X j w' := fun w'' b' => h w'' (b.trans (b'.mono b.size))
theorem Hits.step {F X : Nat} {j : Bool} {w w' : World} {Q : World → Prop} (h : Hits F X j w Q) (b : Below w.heap.size w w') : Hits F X j w' Q := fun w'' b' => h w'' (b.trans (b'.mono b.size))

section
variable {X Bx Bj K : Nat} {j : Bool} {w : World} {Q : World → Prop}

set_option maxHeartbeats 8000000 in
set_option maxRecDepth 100000 in
theorem find_walk (p : Nat) (hp : p < 4) (hK : w.heap[K]? = some takersRow) (hx : w.cell? ⟨Bx, 0, none⟩ = some (.pointer (some ⟨X, 0, none⟩))) (hj : w.cell? ⟨Bj, 0, none⟩ = some (.bool j))
    (hmiss : ∀ i, i < p → Misses (95 + i) X j w) (hhit : Hits (95 + p) X j w Q) :
    Calls Tryz.prog 132 #[.slice (some ⟨K, 0, none⟩) 4 4, .func (.func 103) #[] #[.pointer (some ⟨Bx, 0, none⟩), .pointer (some ⟨Bj, 0, none⟩)]] w fun r w' => r = .returned (.int .i64 p) ∧ Q w' := by
  have lK := (Array.getElem?_eq_some_iff.1 hK).1
  have lx := World.block_lt_of_cell? w _ hx
  have lj := World.block_lt_of_cell? w _ hj
  simp only at lx lj
  go_enter Tryz.func132, Tryz.ntmps132
  go_wp2
  go_loopw [8] (fun v wr => ∃ i : Nat, i ≤ p ∧ v = .int .i64 i ∧ Below w.heap.size w wr) (fun v _ => p - (intOf v).toNat)
  case atStart => exact ⟨0, Nat.zero_le _, rfl, Below.refl _ _⟩
  case round =>
    obtain ⟨i, hi, rfl, hb⟩ := hrel
    have hK1 := (hb.block K lK).trans hK
    have hx1 := (hb.cell (p := ⟨Bx, 0, none⟩) lx).trans hx
    have hj1 := (hb.cell (p := ⟨Bj, 0, none⟩) lj).trans hj
    have q0 : wr.cell? ⟨K, 0, none⟩ = some (.func (.func 95) #[] #[]) := by rw [Lib.cell_of_heap hK1]; rfl
    have q1 : wr.cell? ⟨K, 1, none⟩ = some (.func (.func 96) #[] #[]) := by rw [Lib.cell_of_heap hK1]; rfl
    have q2 : wr.cell? ⟨K, 2, none⟩ = some (.func (.func 97) #[] #[]) := by rw [Lib.cell_of_heap hK1]; rfl
    have q3 : wr.cell? ⟨K, 3, none⟩ = some (.func (.func 98) #[] #[]) := by rw [Lib.cell_of_heap hK1]; rfl
    by_cases hlt : i < p
    · have hm := hmiss i hlt wr hb
      have hi3 : i = 0 ∨ i = 1 ∨ i = 2 := by omega
      rcases hi3 with rfl | rfl | rfl
      · have ht := try_walk 95 X Bx Bj j false wr hx1 hj1 _ hm (by decide)
        go_wp2_with (go_at_call 103; refine ht.mono ?_)
        rintro e w' ⟨rfl, b'⟩
        go_wp2
        go_roundw
        case rel => exact ⟨1, by omega, rfl, hb.trans (b'.mono hb.size)⟩
        case measure => simp [intOf]; omega
      · have ht := try_walk 96 X Bx Bj j false wr hx1 hj1 _ hm (by decide)
        go_wp2_with (go_at_call 103; refine ht.mono ?_)
        rintro e w' ⟨rfl, b'⟩
        go_wp2
        go_roundw
        case rel => exact ⟨2, by omega, rfl, hb.trans (b'.mono hb.size)⟩
        case measure => simp [intOf]; omega
      · have ht := try_walk 97 X Bx Bj j false wr hx1 hj1 _ hm (by decide)
        go_wp2_with (go_at_call 103; refine ht.mono ?_)
        rintro e w' ⟨rfl, b'⟩
        go_wp2
        go_roundw
        case rel => exact ⟨3, by omega, rfl, hb.trans (b'.mono hb.size)⟩
        case measure => simp [intOf]; omega
    · obtain rfl : i = p := by omega
      have hm := hhit wr hb
      have hi3 : i = 0 ∨ i = 1 ∨ i = 2 ∨ i = 3 := by omega
      rcases hi3 with rfl | rfl | rfl | rfl
      · have ht := try_walk 95 X Bx Bj j true wr hx1 hj1 _ hm (by decide)
        go_wp2_with (go_at_call 103; refine ht.mono ?_)
        rintro e w' ⟨rfl, hQ⟩
        go_wp2
        go_ret
        exact ⟨rfl, hQ⟩
      · have ht := try_walk 96 X Bx Bj j true wr hx1 hj1 _ hm (by decide)
        go_wp2_with (go_at_call 103; refine ht.mono ?_)
        rintro e w' ⟨rfl, hQ⟩
        go_wp2
        go_ret
        exact ⟨rfl, hQ⟩
      · have ht := try_walk 97 X Bx Bj j true wr hx1 hj1 _ hm (by decide)
        go_wp2_with (go_at_call 103; refine ht.mono ?_)
        rintro e w' ⟨rfl, hQ⟩
        go_wp2
        go_ret
        exact ⟨rfl, hQ⟩
      · have ht := try_walk 98 X Bx Bj j true wr hx1 hj1 _ hm (by decide)
        go_wp2_with (go_at_call 103; refine ht.mono ?_)
        rintro e w' ⟨rfl, hQ⟩
        go_wp2
        go_ret
        exact ⟨rfl, hQ⟩

set_option maxHeartbeats 4000000 in
set_option maxRecDepth 100000 in
theorem takes_walk (p : Nat) (hp : p < 4) (hK : w.heap[K]? = some takersRow) (hx : w.cell? ⟨Bx, 0, none⟩ = some (.pointer (some ⟨X, 0, none⟩))) (hj : w.cell? ⟨Bj, 0, none⟩ = some (.bool j))
    (hmiss : ∀ i, i < p → Misses (95 + i) X j w) (hhit : Hits (95 + p) X j w Q) :
    Calls Tryz.prog 102 #[.slice (some ⟨K, 0, none⟩) 4 4, .func (.func 103) #[] #[.pointer (some ⟨Bx, 0, none⟩), .pointer (some ⟨Bj, 0, none⟩)]] w fun r w' => r = .returned (.bool true) ∧ Q w' := by
  have hf := find_walk p hp hK hx hj hmiss hhit
  have hp0 : (0 : Int) ≤ (p : Int) := by omega
  clear hmiss hhit hK hx hj
  go_enter Tryz.func102, Tryz.ntmps102
  go_wp2_with (go_at_call 132; refine hf.mono ?_)
  rintro e w' ⟨rfl, hQ⟩
  go_wp2
  go_ret
  refine ⟨?_, hQ⟩
  first | rfl | simp
end
end Go.Proofs.YtholnnabakaliaaGreatDoor

namespace Go.Proofs.YtholnnabakaliaaGreatDoor
open Go.RowKit

def PosIs (p q : Nat) : Prop := p = q
theorem tail_is {s : ByteArray} {p : Nat} {y : List UInt8} (hd : s.data.toList.drop p = y) : s.extract p s.size = mk y := by
  apply ByteArray.ext
  apply Array.ext'
  rw [ByteArray.data_extract, Array.toList_extract, List.extract_eq_take_drop, hd]
  have hl := congrArg List.length hd
  rw [List.length_drop, size_list] at hl
  rw [List.take_of_length_le (by omega)]
  simp [mk]
theorem mk_size (l : List UInt8) : (mk l).size = l.length := by
  show l.toArray.size = _
  simp
theorem byteCells_snoc (l : List UInt8) (c : UInt8) : Lib.byteCells (l ++ [c]) = Lib.byteCells l ++ [.int .u8 c.toNat] := by simp [Lib.byteCells]

section
variable {B X : Nat} {ks : List (Nat × Obj)} {s : ByteArray} {lv : Value} {n : Nat} {xs : List Value} {wz : Int} {w0 w : World} {LN : Value} {ls : List Int}

set_option maxHeartbeats 32000000 in
set_option maxRecDepth 100000 in
theorem text_hit {a : Nat} (h : Scn B X ks s LN a lv n xs 0 wz w0 w) (hL : LinesAt LN ls ks) (gL : Lines ls) (hsz : s.size ≤ 1048576) (hn : n ≤ 1048576) (bytes rest : List UInt8) (hbl : bytes.length ≤ 4096) (hd : s.data.toList.drop a = quoteL bytes ++ rest) (j : Bool) :
    Calls Tryz.prog 97 #[.pointer (some ⟨X, 0, none⟩), .bool j] w fun r w' => r = .returned (.bool true) ∧
      ∃ lv', Scn B X ks s LN (a + (quoteL bytes).length : Nat) lv' (n + 1) (xs ++ Tok.cells ⟨3, s.extract a (a + (quoteL bytes).length), 0, mk bytes, plL ls a, plC ls a, j && decide (0 < n)⟩) 0 wz w0 w' := by
  obtain ⟨ha, hc⟩ : ∃ h : a < s.size, s[a] = 34 := byte_at hd 0 (x := 34) rfl
  have hc' : ((s[a].toNat : Nat) : Int) = 34 := by rw [hc]; rfl
  have c0 := h.c0
  have c1 := h.c1
  have ha0 : (0 : Int) ≤ (a : Int) := by omega
  have ha' : (a : Int) < s.size := by omega
  have hw1 : IntKind.i64.wrap ((a : Int) + 1) = ((a + 1 : Nat) : Int) := by rw [show ((a + 1 : Nat) : Int) = (a : Int) + 1 by omega]; exact IntWalk.i64_in _ (by omega)
  obtain ⟨q0, hq0⟩ : ∃ q0, PosIs q0 (a + 1) := ⟨_, rfl⟩
  rw [show (a + 1 : Nat) = q0 from hq0.symm] at hw1
  go_enter Tryz.func97, Tryz.ntmps97
  go_wp2
  go_quiet (fail)
  have hm := h.step (belowDrewN (Below.refl _ _) nq)
  generalize w.drewN nq = W at hm ⊢
  have d0 := hm.c0
  have d1 := hm.c1
  have hXl := hm.lt
  have neX := World.new_ne W _ d0
  clear c0 c1 h
  go_wp2
  have hb0 : Lib.IsBuilder 113 5 W.heap.size W.heap.size (Lib.byteCells (bytes.take 0)) (W.alloc (.cells #[.pointer none, .slice none 0 0] 113)) := Lib.fresh_isBuilder 113 5 W
  have bel0 := (Below.refl W.heap.size W).alloc (Nat.le_refl _) (.cells #[.pointer none, .slice none 0 0] 113)
  generalize hbb : W.heap.size = bb at hb0 bel0 ⊢
  generalize (W.alloc (.cells #[.pointer none, .slice none 0 0] 113)) = V at hb0 bel0 ⊢
  clear d0 d1 neX
  have hlenq : (quoteL bytes).length = encLen bytes bytes.length + 2 := by
    unfold quoteL encLen
    rw [List.take_length]
    simp
  go_loopg [6] (bytes.length + 1) (fun g v wr' => ∃ k p : Nat, k ≤ bytes.length ∧ g = bytes.length + 1 - k ∧ PosIs p (a + 1 + encLen bytes k) ∧ v = .int .i64 p ∧ Lib.IsBuilder 113 5 bb bb (Lib.byteCells (bytes.take k)) wr' ∧ Below bb W wr')
  case atStart => exact ⟨0, q0, Nat.zero_le _, rfl, by unfold PosIs at *; simp [encLen]; exact hq0, rfl, hb0, bel0⟩
  case round =>
    clear hb0 bel0 hw1
    obtain ⟨k, p, hk, hg, hp, rfl, hI, hb⟩ := hrel
    have hdp := enc_drop hd k
    rw [show a + 1 + encLen bytes k = p from hp.symm] at hdp
    have hsb : bb ≤ wr.heap.size := by rw [← hbb]; exact hbb ▸ hb.size
    have hS := hm.step (hbb.symm ▸ hb)
    have hlk : (Lib.byteCells (bytes.take k)).length = k := by rw [Lib.byteCells_length, List.length_take]; omega
    have d0 := hS.c0
    have d1 := hS.c1
    have hp0 : (0 : Int) ≤ (p : Int) := by omega
    by_cases hlt : k < bytes.length
    · obtain ⟨c, hcE⟩ : ∃ c, bytes[k] = c := ⟨_, rfl⟩
      have hdk : bytes.drop k = c :: bytes.drop (k + 1) := by rw [List.drop_eq_getElem_cons hlt, hcE]
      have htk : bytes.take (k + 1) = bytes.take k ++ [c] := by rw [List.take_succ_eq_append_getElem hlt, hcE]
      have hel := encLen_succ hlt
      rw [hcE] at hel
      rw [hdk, List.flatMap_cons, List.append_assoc] at hdp
      have hc256 : c.toNat < 256 := c.toNat_lt
      generalize hTail : (bytes.drop (k + 1)).flatMap esc ++ 34 :: rest = tl at hdp
      rcases esc_form c with ⟨he, e1, e2, e3, e4⟩ | ⟨x, he, hx⟩ | he
      · rw [he] at hdp hel
        obtain ⟨hps, hpc⟩ : ∃ h : p < s.size, s[p] = c := byte_at hdp 0 (x := c) rfl
        obtain ⟨m, hm0⟩ : ∃ m : Int, m = (c.toNat : Int) := ⟨_, rfl⟩
        have hq : ((s[p].toNat : Nat) : Int) = m := by rw [hpc, hm0]
        have hps' : (p : Int) < (s.size : Int) := by omega
        have hn34 : ¬ m = 34 := by omega
        have hst : standsB m = true := by
          have g1 : (32 : Int) ≤ m := by omega
          have g2 : m ≠ 127 := by omega
          have g4 : m ≠ 92 := by omega
          simp [standsB, g1, g2, hn34, g4]
        have xs1 := fun w => stands_is m w true hst
        have xw := writeByte bb bb _ m wr hI (by rw [hlk]; omega) hsb
        have hw2 : IntKind.i64.wrap ((p : Int) + 1) = ((p + 1 : Nat) : Int) := by rw [show ((p + 1 : Nat) : Int) = (p : Int) + 1 by omega]; exact IntWalk.i64_in _ (by omega)
        obtain ⟨q1, hq1⟩ : ∃ q1, PosIs q1 (p + 1) := ⟨_, rfl⟩
        rw [show (p + 1 : Nat) = q1 from hq1.symm] at hw2
        have hcells : Lib.byteCells (bytes.take k) ++ [.int .u8 m] = Lib.byteCells (bytes.take (k + 1)) := by rw [htk, byteCells_snoc, hm0]
        rw [hcells] at xw
        clear hm0 hpc hdp hI hTail htk hdk hcE hcells e1 e2 e3 e4
        go_wp2_with (first
          | (go_at_call 89; refine (xs1 _).mono ?_; rintro e w2 ⟨rfl, rfl⟩)
          | (go_at_call 87; refine xw.mono ?_))
        rintro e w3 ⟨rfl, hI3, b3⟩
        go_wp2
        go_roundg (bytes.length + 1 - (k + 1))
        case measure => omega
        case rel => exact ⟨k + 1, q1, by omega, rfl, by unfold PosIs at *; simp only [List.length_cons, List.length_nil] at hel; omega, rfl, .inr hI3, hb.trans b3⟩
      · rw [he] at hdp hel
        obtain ⟨hps, hpc⟩ : ∃ h : p < s.size, s[p] = 92 := byte_at hdp 0 (x := 92) rfl
        have hq : ((s[p].toNat : Nat) : Int) = 92 := by rw [hpc]; rfl
        have hps' : (p : Int) < (s.size : Int) := by omega
        have hst : standsB 92 = false := by decide
        have xs1 := fun w => stands_is 92 w false hst
        have hw2 : IntKind.i64.wrap ((p : Int) + 1) = ((p + 1 : Nat) : Int) := by rw [show ((p + 1 : Nat) : Int) = (p : Int) + 1 by omega]; exact IntWalk.i64_in _ (by omega)
        obtain ⟨q1, hq1⟩ : ∃ q1, PosIs q1 (p + 1) := ⟨_, rfl⟩
        have hd2 : s.data.toList.drop (p + 1) = x :: tl := by rw [← List.drop_drop, hdp]; rfl
        have ht := tail_is hd2
        have hq1s : p + 1 ≤ s.size := by omega
        rw [show (p + 1 : Nat) = q1 from hq1.symm] at hw2 ht hq1s
        have hq10 : (0 : Int) ≤ (q1 : Int) := by omega
        have hq11 : (q1 : Int) ≤ (s.size : Int) := by omega
        have hw3 : IntKind.i64.wrap ((p : Int) + 2) = ((p + 2 : Nat) : Int) := by rw [show ((p + 2 : Nat) : Int) = (p : Int) + 2 by omega]; exact IntWalk.i64_in _ (by omega)
        obtain ⟨q2, hq2⟩ : ∃ q2, PosIs q2 (p + 2) := ⟨_, rfl⟩
        rw [show (p + 2 : Nat) = q2 from hq2.symm] at hw3
        have hcells : Lib.byteCells (bytes.take k) ++ [.int .u8 c.toNat] = Lib.byteCells (bytes.take (k + 1)) := by rw [htk, byteCells_snoc]
        have xe := escape_two bb bb _ (mk (x :: tl)) wr hI (by rw [hlk]; omega) hsb (by rw [mk_size]; simp) (c.toNat : Int) (by
          have e0 : (mk (x :: tl))[0]'(by rw [mk_size]; simp) = x := rfl
          rw [e0]
          rcases hx with ⟨rfl, h1⟩ | ⟨rfl, h1⟩ | ⟨rfl, h1⟩ | ⟨rfl, h1⟩
          · exact .inl ⟨rfl, by omega⟩
          · exact .inr (.inl ⟨rfl, by omega⟩)
          · exact .inr (.inr (.inl ⟨rfl, by omega⟩))
          · exact .inr (.inr (.inr ⟨rfl, by omega⟩)))
        rw [hcells] at xe
        clear hpc hdp hI hTail htk hdk hcE hcells hd2
        go_wp2_with (first
          | (go_at_call 89; refine (xs1 _).mono ?_; rintro e w2 ⟨rfl, rfl⟩)
          | (go_at_call 129; refine xe.mono ?_))
        rintro e w3 ⟨rfl, hI3, b3⟩
        go_wp2
        go_roundg (bytes.length + 1 - (k + 1))
        case measure => omega
        case rel => exact ⟨k + 1, q2, by omega, rfl, by unfold PosIs at *; simp only [List.length_cons, List.length_nil] at hel; omega, rfl, .inr hI3, hb.trans b3⟩
      · rw [he] at hdp hel
        obtain ⟨hps, hpc⟩ : ∃ h : p < s.size, s[p] = 92 := byte_at hdp 0 (x := 92) rfl
        have hq : ((s[p].toNat : Nat) : Int) = 92 := by rw [hpc]; rfl
        have hps' : (p : Int) < (s.size : Int) := by omega
        have hst : standsB 92 = false := by decide
        have xs1 := fun w => stands_is 92 w false hst
        have hw2 : IntKind.i64.wrap ((p : Int) + 1) = ((p + 1 : Nat) : Int) := by rw [show ((p + 1 : Nat) : Int) = (p : Int) + 1 by omega]; exact IntWalk.i64_in _ (by omega)
        obtain ⟨q1, hq1⟩ : ∃ q1, PosIs q1 (p + 1) := ⟨_, rfl⟩
        have hd2 : s.data.toList.drop (p + 1) = 120 :: hexDigit (c.toNat / 16) :: hexDigit (c.toNat % 16) :: tl := by rw [← List.drop_drop, hdp]; rfl
        have ht := tail_is hd2
        have hq1s : p + 1 ≤ s.size := by omega
        rw [show (p + 1 : Nat) = q1 from hq1.symm] at hw2 ht hq1s
        have hq10 : (0 : Int) ≤ (q1 : Int) := by omega
        have hq11 : (q1 : Int) ≤ (s.size : Int) := by omega
        have hw3 : IntKind.i64.wrap ((p : Int) + 4) = ((p + 4 : Nat) : Int) := by rw [show ((p + 4 : Nat) : Int) = (p : Int) + 4 by omega]; exact IntWalk.i64_in _ (by omega)
        obtain ⟨q2, hq2⟩ : ∃ q2, PosIs q2 (p + 4) := ⟨_, rfl⟩
        rw [show (p + 4 : Nat) = q2 from hq2.symm] at hw3
        have hcells : Lib.byteCells (bytes.take k) ++ [.int .u8 c.toNat] = Lib.byteCells (bytes.take (k + 1)) := by rw [htk, byteCells_snoc]
        have xe := escape_hex bb bb _ (mk (120 :: hexDigit (c.toNat / 16) :: hexDigit (c.toNat % 16) :: tl)) wr hI (by rw [hlk]; omega) hsb (by rw [mk_size]; simp) (c.toNat / 16) (c.toNat % 16) (by omega) (by omega) rfl rfl rfl
        rw [show (16 * ((c.toNat / 16 : Nat) : Int) + ((c.toNat % 16 : Nat) : Int)) = (c.toNat : Int) by omega] at xe
        rw [hcells] at xe
        clear hpc hdp hI hTail htk hdk hcE hcells hd2
        go_wp2_with (first
          | (go_at_call 89; refine (xs1 _).mono ?_; rintro e w2 ⟨rfl, rfl⟩)
          | (go_at_call 129; refine xe.mono ?_))
        rintro e w3 ⟨rfl, hI3, b3⟩
        go_wp2
        go_roundg (bytes.length + 1 - (k + 1))
        case measure => omega
        case rel => exact ⟨k + 1, q2, by omega, rfl, by unfold PosIs at *; simp only [List.length_cons, List.length_nil] at hel; omega, rfl, .inr hI3, hb.trans b3⟩
    · obtain rfl : k = bytes.length := by omega
      rw [List.drop_length, List.flatMap_nil, List.nil_append] at hdp
      obtain ⟨hps, hpc⟩ : ∃ h : p < s.size, s[p] = 34 := byte_at hdp 0 (x := 34) rfl
      have hq : ((s[p].toNat : Nat) : Int) = 34 := by rw [hpc]; rfl
      have hps' : (p : Int) < (s.size : Int) := by omega
      rw [List.take_length] at hI hlk
      have xl := bld_len bb bb _ wr hI
      rw [hlk] at xl
      have hlen4 : ¬ (4096 : Int) < (bytes.length : Int) := by omega
      have xst := Tryz.Builder_String_any bb bb bytes wr hI hsb
      have hw2 : IntKind.i64.wrap ((p : Int) + 1) = ((p + 1 : Nat) : Int) := by rw [show ((p + 1 : Nat) : Int) = (p : Int) + 1 by omega]; exact IntWalk.i64_in _ (by omega)
      have hpa : p + 1 = a + (quoteL bytes).length := by unfold PosIs at hp; omega
      have hstep := fun w' (b : Below bb wr w') => hm.step (hbb.symm ▸ hb.trans b)
      have hadd := fun w' (hS' : Scn B X ks s LN a lv n xs 0 wz w0 w') => add_walk hS' hL gL hsz hn (p + 1) (by omega) (by omega) 3 0 (mk bytes) j
      rw [hpa] at hadd hw2
      obtain ⟨q1, hq1⟩ : ∃ q1, PosIs q1 (a + (quoteL bytes).length) := ⟨_, rfl⟩
      rw [show a + (quoteL bytes).length = q1 from hq1.symm] at hadd hw2
      clear hpc hdp hI hpa hlenq
      go_wp2_with (first
        | (go_at_call 115; refine xl.mono ?_; rintro e w2 ⟨rfl, rfl⟩)
        | (go_at_call 68; refine xst.mono ?_))
      rintro e w3 ⟨rfl, b3⟩
      have hS3 := hstep _ b3
      have hadd3 := hadd _ hS3
      clear hstep hadd xst xl hS hS3
      go_wp2_with (first
        | (go_at_call 100; refine hadd3.mono ?_))
      rintro e w4 ⟨rfl, lv', hS4⟩
      go_wp2
      go_ret
      exact ⟨rfl, lv', by rw [show a + (quoteL bytes).length = q1 from hq1.symm]; exact hS4⟩
end
end Go.Proofs.YtholnnabakaliaaGreatDoor
