/- Law BloomTells: the walk.
   Conditions: those that the theorem names. -/
import Derived.Test.YtehfinjcfjobeaaBlmZ
namespace Go.Proofs.Ytehfinjcfjobeaa
set_option maxRecDepth 100000
set_option linter.unusedVariables false
set_option linter.unusedSimpArgs false
open Go.RowKit Go.Rg
theorem btells_walk (N Mo : Int) (hMo : -9223372036854775808 ≤ Mo ∧ Mo ≤ 9223372036854775807) (av bv yv : Value) (A B : List Mk) (M : List UInt8) (w : World) (hA : MarksAt w av (vals A)) (hB : MarksAt w bv (vals B)) (hM : M.length = 16) :
    Calls Try.prog 5 #[.agg (caseB N Mo av bv M yv).toArray] w fun e w' => e = .returned (.bool true) ∧ Below w.heap.size w w' := by
  by_cases hl : A.length ≤ 60 ∧ B.length ≤ 60
  · by_cases hfit : fitsB N
    · obtain ⟨n, rfl, hn8, hn1⟩ := fits_of hfit
      exact btells_in n hn8 hn1 Mo hMo av bv yv A B M w hA hB hM hl.1 hl.2
    · exact btells_no N Mo hfit av bv yv A B M w hA hB hM hl.1 hl.2
  · exact btells_long N Mo av bv yv A B M w hA hB hM hl
end Go.Proofs.Ytehfinjcfjobeaa
