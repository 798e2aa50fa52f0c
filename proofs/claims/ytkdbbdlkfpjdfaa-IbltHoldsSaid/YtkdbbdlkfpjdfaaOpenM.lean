/- The opener of a mark handed in as it is.
   Conditions: those that the theorem names. -/
import Derived.Test.YtkdbbdlkfpjdfaaOpenC
namespace Go.Proofs.Ytkdbbdlkfpjdfaa
set_option maxRecDepth 100000
set_option linter.unusedVariables false
set_option linter.unusedSimpArgs false
open Go.RowKit Go.Rg Go.ChangeShapes Go.Joins Go.Deep Go.WideShapes
variable {H : Type} {enc : TypeId × Value → H} {w : World} {base : Nat} {spare : Nat → Bool} {held : Bool}
theorem open_mark_arg {r : Reach} {b0 : Nat} {v : Value} {d : DataW H} {p : List MemPlace} (hv : Value.okWide Try.prog w r b0 23 v) (h : DataW.Trod enc Try.prog w base spare held 23 v d p) :
    ∃ m : List UInt8, m.length = 16 ∧ v = markV m := by
  have hu := Try.underlying23
  simp only [Value.okWide, hu] at hv
  obtain ⟨cs, rfl, _⟩ := hv
  obtain ⟨fuel, hf⟩ := h
  obtain ⟨l⟩ := cs
  obtain ⟨m, hm, e⟩ := open_mark hf
  refine ⟨m, hm, ?_⟩
  have e2 : l = m.map byteV := e
  rw [e2]
end Go.Proofs.Ytkdbbdlkfpjdfaa
