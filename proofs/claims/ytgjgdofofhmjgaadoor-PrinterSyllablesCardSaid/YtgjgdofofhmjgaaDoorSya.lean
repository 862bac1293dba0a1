/-
  A part of the proof that the law PrinterSyllables (chapter 20) returns true for every syllable: the walk of functions of the program, for every string.
-/
import Derived.Test.YtgjgdofofhmjgaaDoorSyl
import Derived.Deep.RegionWith
import Derived.Deep.RegionHeld
import Derived.WalkSpells
namespace Go.Proofs.YtgjgdofofhmjgaaDoor
open Go.RowKit

theorem quoteOf_le (s : ByteArray) : (quoteOf s).size ≤ 100000 := by
  unfold quoteOf
  split
  · have := done_le s s.size
    have e : (⟨(done s s.size ++ [34]).toArray⟩ : ByteArray).size = (done s s.size ++ [34]).length := rfl
    rw [e, List.length_append]; simp only [List.length_cons, List.length_nil]; omega
  · decide

theorem add_link (s t : ByteArray) (ht : t.size ≤ 10) (w : World) : (Op.stringOp .add (quoteOf s) t).run Tryd.prog w = .ok (.string (quoteOf s ++ t)) w :=
  Go.run_string_add_sum (P := Tryd.prog) (w := w) (quoteOf s) t (by have := quoteOf_le s; omega)

end Go.Proofs.YtgjgdofofhmjgaaDoor
