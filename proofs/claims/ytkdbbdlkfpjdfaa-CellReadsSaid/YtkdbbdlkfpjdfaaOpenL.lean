/- The opener of a cell handed in as it is.
   Conditions: those that the theorem names. -/
import Derived.Test.YtkdbbdlkfpjdfaaOpenC
namespace Go.Proofs.Ytkdbbdlkfpjdfaa
set_option maxRecDepth 100000
set_option linter.unusedVariables false
set_option linter.unusedSimpArgs false
open Go.RowKit Go.Rg Go.ChangeShapes Go.Joins Go.Deep Go.WideShapes
variable {H : Type} {enc : TypeId × Value → H} {w : World} {base : Nat} {spare : Nat → Bool} {held : Bool}
theorem open_cell_arg {r : Reach} {b0 : Nat} {v : Value} {d : DataW H} {p : List MemPlace} (hv : Value.okWide Try.prog w r b0 26 v) (h : DataW.Trod enc Try.prog w base spare held 26 v d p) :
    ∃ c : Ce, c.ok ∧ v = cellV c := by
  have hu := Try.underlying26
  simp only [Value.okWide, hu] at hv
  obtain ⟨cs, rfl, _⟩ := hv
  obtain ⟨fuel, hf⟩ := h
  obtain ⟨l⟩ := cs
  obtain ⟨c, hc, e⟩ := open_cell hf
  refine ⟨c, hc, ?_⟩
  have e2 : l = c.vals := e
  rw [e2]; rfl
end Go.Proofs.Ytkdbbdlkfpjdfaa
