/-
  An own evaluator of closed runs of a program, proved sound against the model for every order of draws and every capacity of append. This text is one part of it; the last part's theorem 'closed' says what a run in the kernel proves. Used for the law's closed self-test.
-/
import Derived.Test.YtgjgdofofhmjgaaDoorDam2
namespace Go.Dam

/-! names and blocks -/

structure Env where
  β : Nat → Nat
  σ : Nat → Nat
  κ : Nat → Nat

def Env.addr (E : Env) (a : Addr) : Addr := ⟨E.β a.block, E.σ a.block + a.off, a.spot⟩

def ren (E : Env) : Value → Value
  | .pointer (some a) => .pointer (some (E.addr a))
  | .slice (some a) len cap => .slice (some (E.addr a)) len (if isRow a.block = true then E.κ a.block - cap else cap)
  | .map (some r) => .map (some (E.β r))
  | .func fn a b => .func fn (a.attach.map fun ⟨x, _⟩ => ren E x) (b.attach.map fun ⟨x, _⟩ => ren E x)
  | .iface t v => .iface t (ren E v)
  | .agg cs => .agg (cs.attach.map fun ⟨x, _⟩ => ren E x)
  | .tuple cs => .tuple (cs.attach.map fun ⟨x, _⟩ => ren E x)
  | v => v
termination_by v => SizeOf.sizeOf v
decreasing_by
  all_goals simp_wf
  all_goals first | omega | (rename_i h; have := Array.sizeOf_lt_of_mem h; omega)

def Sc (A : Nat → Prop) : Value → Prop
  | .pointer (some a) => A a.block
  | .slice (some a) _ _ => A a.block
  | .map (some r) => A r
  | .func _ a b => (∀ x, (h : x ∈ a) → Sc A x) ∧ (∀ x, (h : x ∈ b) → Sc A x)
  | .iface _ v => Sc A v
  | .agg cs => ∀ x, (h : x ∈ cs) → Sc A x
  | .tuple cs => ∀ x, (h : x ∈ cs) → Sc A x
  | _ => True
termination_by v => SizeOf.sizeOf v
decreasing_by
  all_goals simp_wf
  all_goals first | omega | (have := Array.sizeOf_lt_of_mem h; omega)

section
variable (E : Env)
theorem ren_agg (cs : Array Value) : ren E (.agg cs) = .agg (cs.map (ren E)) := by rw [ren]; simp
theorem ren_tuple (cs : Array Value) : ren E (.tuple cs) = .tuple (cs.map (ren E)) := by rw [ren]; simp
theorem ren_func (fn : Fn) (a b : Array Value) : ren E (.func fn a b) = .func fn (a.map (ren E)) (b.map (ren E)) := by rw [ren]; simp
theorem ren_iface (t : TypeId) (v : Value) : ren E (.iface t v) = .iface t (ren E v) := by rw [ren]
theorem ren_ptr (a : Addr) : ren E (.pointer (some a)) = .pointer (some (E.addr a)) := by rw [ren]
theorem ren_slice (a : Addr) (l c : Nat) : ren E (.slice (some a) l c) = .slice (some (E.addr a)) l (if isRow a.block = true then E.κ a.block - c else c) := by rw [ren]
theorem ren_map (r : Nat) : ren E (.map (some r)) = .map (some (E.β r)) := by rw [ren]
theorem ren_bool (b : Bool) : ren E (.bool b) = .bool b := by rw [ren] <;> simp
theorem ren_int (k : IntKind) (n : Int) : ren E (.int k n) = .int k n := by rw [ren] <;> simp
theorem ren_string (s : ByteArray) : ren E (.string s) = .string s := by rw [ren] <;> simp
theorem ren_nilptr : ren E (.pointer none) = .pointer none := by rw [ren] <;> simp
theorem ren_nilslice (l c : Nat) : ren E (.slice none l c) = .slice none l c := by rw [ren] <;> simp
theorem ren_nilmap : ren E (.map none) = .map none := by rw [ren] <;> simp
theorem ren_nilfunc : ren E .nilFunc = .nilFunc := by rw [ren] <;> simp
theorem ren_niliface : ren E .nilIface = .nilIface := by rw [ren] <;> simp
theorem ren_float (k : FloatKind) (n : Nat) : ren E (.float k n) = .float k n := by rw [ren] <;> simp
theorem ren_complex (k : FloatKind) (n m : Nat) : ren E (.complex k n m) = .complex k n m := by rw [ren] <;> simp
theorem ren_chan (r : Option Nat) : ren E (.chan r) = .chan r := by rw [ren] <;> simp
theorem ren_undef : ren E undef = undef := by rw [undef, ren_tuple]; simp
end

section
variable (A : Nat → Prop)
theorem Sc_agg (cs : Array Value) : Sc A (.agg cs) ↔ ∀ x ∈ cs, Sc A x := by rw [Sc]
theorem Sc_tuple (cs : Array Value) : Sc A (.tuple cs) ↔ ∀ x ∈ cs, Sc A x := by rw [Sc]
theorem Sc_func (fn : Fn) (a b : Array Value) : Sc A (.func fn a b) ↔ (∀ x ∈ a, Sc A x) ∧ (∀ x ∈ b, Sc A x) := by rw [Sc]
theorem Sc_iface (t : TypeId) (v : Value) : Sc A (.iface t v) ↔ Sc A v := by rw [Sc]
theorem Sc_ptr (a : Addr) : Sc A (.pointer (some a)) ↔ A a.block := by rw [Sc]
theorem Sc_slice (a : Addr) (l c : Nat) : Sc A (.slice (some a) l c) ↔ A a.block := by rw [Sc]
theorem Sc_map (r : Nat) : Sc A (.map (some r)) ↔ A r := by rw [Sc]
theorem Sc_bool (b : Bool) : Sc A (.bool b) := by rw [Sc] <;> simp
theorem Sc_int (k : IntKind) (n : Int) : Sc A (.int k n) := by rw [Sc] <;> simp
theorem Sc_string (s : ByteArray) : Sc A (.string s) := by rw [Sc] <;> simp
theorem Sc_nilptr : Sc A (.pointer none) := by rw [Sc] <;> simp
theorem Sc_nilslice (l c : Nat) : Sc A (.slice none l c) := by rw [Sc] <;> simp
theorem Sc_nilmap : Sc A (.map none) := by rw [Sc] <;> simp
theorem Sc_nilfunc : Sc A .nilFunc := by rw [Sc] <;> simp
theorem Sc_niliface : Sc A .nilIface := by rw [Sc] <;> simp
theorem Sc_undef : Sc A undef := by rw [undef, Sc_tuple]; simp
end

/-- Two environments give the same to the names of a set. -/
def Agree (A : Nat → Prop) (E E' : Env) : Prop := ∀ n, A n → E'.β n = E.β n ∧ E'.σ n = E.σ n ∧ E'.κ n = E.κ n

theorem Sc_mono {A B : Nat → Prop} (h : ∀ n, A n → B n) (v : Value) : Sc A v → Sc B v := by
  induction hk : SizeOf.sizeOf v using Nat.strongRecOn generalizing v with
  | _ k ih =>
    subst hk
    cases v with
    | agg cs =>
      rw [Sc_agg, Sc_agg]
      exact fun hs x hx => ih _ (by have := Array.sizeOf_lt_of_mem hx; simp; omega) x rfl (hs x hx)
    | tuple cs =>
      rw [Sc_tuple, Sc_tuple]
      exact fun hs x hx => ih _ (by have := Array.sizeOf_lt_of_mem hx; simp; omega) x rfl (hs x hx)
    | func fn a b =>
      rw [Sc_func, Sc_func]
      exact fun hs => ⟨fun x hx => ih _ (by have := Array.sizeOf_lt_of_mem hx; simp; omega) x rfl (hs.1 x hx), fun x hx => ih _ (by have := Array.sizeOf_lt_of_mem hx; simp; omega) x rfl (hs.2 x hx)⟩
    | iface t v => rw [Sc_iface, Sc_iface]; exact ih _ (by simp; omega) v rfl
    | pointer a =>
      cases a with
      | none => exact fun _ => Sc_nilptr _
      | some a => rw [Sc_ptr, Sc_ptr]; exact h _
    | slice a l c =>
      cases a with
      | none => exact fun _ => Sc_nilslice _ _ _
      | some a => rw [Sc_slice, Sc_slice]; exact h _
    | map r =>
      cases r with
      | none => exact fun _ => Sc_nilmap _
      | some a => rw [Sc_map, Sc_map]; exact h _
    | _ => intro _; rw [Sc] <;> simp

theorem ren_agree {A : Nat → Prop} {E E' : Env} (h : Agree A E E') (v : Value) : Sc A v → ren E' v = ren E v := by
  induction hk : SizeOf.sizeOf v using Nat.strongRecOn generalizing v with
  | _ k ih =>
    subst hk
    cases v with
    | agg cs =>
      rw [Sc_agg, ren_agg, ren_agg]
      intro hs
      rw [Array.map_congr_left fun x hx => ih _ (by have := Array.sizeOf_lt_of_mem hx; simp; omega) x rfl (hs x hx)]
    | tuple cs =>
      rw [Sc_tuple, ren_tuple, ren_tuple]
      intro hs
      rw [Array.map_congr_left fun x hx => ih _ (by have := Array.sizeOf_lt_of_mem hx; simp; omega) x rfl (hs x hx)]
    | func fn a b =>
      rw [Sc_func, ren_func, ren_func]
      intro hs
      rw [Array.map_congr_left fun x hx => ih _ (by have := Array.sizeOf_lt_of_mem hx; simp; omega) x rfl (hs.1 x hx),
        Array.map_congr_left (xs := b) fun x hx => ih _ (by have := Array.sizeOf_lt_of_mem hx; simp; omega) x rfl (hs.2 x hx)]
    | iface t v => rw [Sc_iface, ren_iface, ren_iface]; intro hs; rw [ih _ (by simp; omega) v rfl hs]
    | pointer a =>
      cases a with
      | none => intro _; rw [ren_nilptr, ren_nilptr]
      | some a => rw [Sc_ptr, ren_ptr, ren_ptr]; intro hs; obtain ⟨h1, h2, h3⟩ := h _ hs; simp [Env.addr, h1, h2]
    | slice a l c =>
      cases a with
      | none => intro _; rw [ren_nilslice, ren_nilslice]
      | some a => rw [Sc_slice, ren_slice, ren_slice]; intro hs; obtain ⟨h1, h2, h3⟩ := h _ hs; simp [Env.addr, h1, h2, h3]
    | map r =>
      cases r with
      | none => intro _; rw [ren_nilmap, ren_nilmap]
      | some a => rw [Sc_map, ren_map, ren_map]; intro hs; obtain ⟨h1, h2, h3⟩ := h _ hs; simp [h1]
    | _ => intro _; rw [ren, ren] <;> simp

theorem plain1_ren {v : Value} (E : Env) (h : plain1 v = true) : ren E v = v := by
  cases v with
  | bool b => exact ren_bool _ _
  | int k n => exact ren_int _ _ _
  | string s => exact ren_string _ _
  | pointer a => cases a with
    | none => exact ren_nilptr _
    | some a => simp [plain1] at h
  | slice a l c => cases a with
    | none => exact ren_nilslice _ _ _
    | some a => simp [plain1] at h
  | map r => cases r with
    | none => exact ren_nilmap _
    | some a => simp [plain1] at h
  | func fn a b =>
    simp [plain1] at h
    rw [ren_func, h.1, h.2]; simp
  | nilFunc => exact ren_nilfunc _
  | nilIface => exact ren_niliface _
  | _ => simp [plain1] at h

theorem plain1_Sc {v : Value} (A : Nat → Prop) (h : plain1 v = true) : Sc A v := by
  cases v with
  | bool b => exact Sc_bool _ _
  | int k n => exact Sc_int _ _ _
  | string s => exact Sc_string _ _
  | pointer a => cases a with
    | none => exact Sc_nilptr _
    | some a => simp [plain1] at h
  | slice a l c => cases a with
    | none => exact Sc_nilslice _ _ _
    | some a => simp [plain1] at h
  | map r => cases r with
    | none => exact Sc_nilmap _
    | some a => simp [plain1] at h
  | func fn a b =>
    simp [plain1] at h
    rw [Sc_func, h.1, h.2]; simp
  | nilFunc => exact Sc_nilfunc _
  | nilIface => exact Sc_niliface _
  | _ => simp [plain1] at h

theorem plainAll_mem {l : List Value} (h : plainAll l = true) : ∀ v ∈ l, plain1 v = true := by
  induction l with
  | nil => simp
  | cons a r ih => simp [plainAll] at h; intro v hv; rcases List.mem_cons.1 hv with rfl | hv; exact h.1; exact ih h.2 v hv

theorem plain2_ren {v : Value} (E : Env) (h : plain2 v = true) : ren E v = v := by
  cases v with
  | agg cs =>
    have := plainAll_mem (l := cs.toList) h
    have e : cs.map (ren E) = cs := by
      have := Array.map_congr_left (xs := cs) (f := ren E) (g := id) (fun x hx => plain1_ren E (this x (by simpa using hx)))
      simpa using this
    rw [ren_agg, e]
  | _ => exact plain1_ren E h

theorem plain2_Sc {v : Value} (A : Nat → Prop) (h : plain2 v = true) : Sc A v := by
  cases v with
  | agg cs =>
    have := plainAll_mem (l := cs.toList) h
    rw [Sc_agg]; exact fun x hx => plain1_Sc A (this x (by simpa using hx))
  | _ => exact plain1_Sc A h

theorem plainAll2_mem {l : List Value} (h : plainAll2 l = true) : ∀ v ∈ l, plain2 v = true := by
  induction l with
  | nil => simp
  | cons a r ih => simp [plainAll2] at h; intro v hv; rcases List.mem_cons.1 hv with rfl | hv; exact h.1; exact ih h.2 v hv

theorem plain_ren {v : Value} (E : Env) (h : plain v = true) : ren E v = v := by
  cases v with
  | tuple cs =>
    have := plainAll2_mem (l := cs.toList) h
    have e : cs.map (ren E) = cs := by
      have := Array.map_congr_left (xs := cs) (f := ren E) (g := id) (fun x hx => plain2_ren E (this x (by simpa using hx)))
      simpa using this
    rw [ren_tuple, e]
  | _ => exact plain2_ren E h

theorem plain_Sc {v : Value} (A : Nat → Prop) (h : plain v = true) : Sc A v := by
  cases v with
  | tuple cs =>
    have := plainAll2_mem (l := cs.toList) h
    rw [Sc_tuple]; exact fun x hx => plain2_Sc A (this x (by simpa using hx))
  | _ => exact plain2_Sc A h

theorem cells_ren (E : Env) (v : Value) : (ren E v).cells = v.cells.map (ren E) := by
  cases v with
  | agg cs => rw [ren_agg]; rfl
  | pointer a => cases a <;> simp [Value.cells, ren_ptr, ren_nilptr]
  | slice a => cases a <;> simp [Value.cells, ren_slice, ren_nilslice]
  | map a => cases a <;> simp [Value.cells, ren_map, ren_nilmap]
  | func => simp [Value.cells, ren_func]
  | iface => simp [Value.cells, ren_iface]
  | tuple => simp [Value.cells, ren_tuple]
  | bool => simp [Value.cells, ren_bool]
  | int => simp [Value.cells, ren_int]
  | string => simp [Value.cells, ren_string]
  | float => simp [Value.cells, ren_float]
  | complex => simp [Value.cells, ren_complex]
  | chan => simp [Value.cells, ren_chan]
  | nilFunc => simp [Value.cells, ren_nilfunc]
  | nilIface => simp [Value.cells, ren_niliface]

theorem Sc_cells {A : Nat → Prop} {v : Value} (h : Sc A v) : ∀ x ∈ v.cells, Sc A x := by
  cases v with
  | agg cs => exact (Sc_agg A cs).1 h
  | _ => intro x hx; simp [Value.cells] at hx; subst hx; exact h

theorem one_ren (E : Env) (v : Value) : one (ren E v) = one v := by
  cases v with
  | agg cs => rw [ren_agg]; rfl
  | pointer a => cases a <;> simp [one, ren_ptr, ren_nilptr]
  | slice a => cases a <;> simp [one, ren_slice, ren_nilslice]
  | map a => cases a <;> simp [one, ren_map, ren_nilmap]
  | func => simp [one, ren_func]
  | iface => simp [one, ren_iface]
  | tuple => simp [one, ren_tuple]
  | bool => simp [one, ren_bool]
  | int => simp [one, ren_int]
  | string => simp [one, ren_string]
  | float => simp [one, ren_float]
  | complex => simp [one, ren_complex]
  | chan => simp [one, ren_chan]
  | nilFunc => simp [one, ren_nilfunc]
  | nilIface => simp [one, ren_niliface]

/-- A pure computation runs so in every world. -/
theorem run_purely {α : Type} {P : Program} {s : Sem α} {v : α} (h : purely P s = some v) (w : World) : s.run P w = .ok v w := by
  induction s with
  | pure a => simp [purely] at h; subst h; rfl
  | program k ih => exact ih P h
  | mark m k ih => exact ih h
  | _ => simp [purely] at h

end Go.Dam
