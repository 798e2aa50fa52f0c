/- '!=' of cells and of marks.
   Conditions: those that each theorem names. -/
import Derived.Test.YtkdbbdlkfpjdfaaCelE
namespace Go.Proofs.Ytkdbbdlkfpjdfaa
set_option maxRecDepth 100000
set_option linter.unusedVariables false
set_option linter.unusedSimpArgs false
open Go.RowKit Go.Rg
theorem neqv_cell (a b : Ce) (ha : a.m.length = 16) (hb : b.m.length = 16) (x y : Operand) (w : World) : (do eqGuard .neq 26 x y (cellV a) (cellV b); binOp .neq 26 (cellV a) (cellV b) : Sem Value).run Try.prog w = .ok (.bool (!a.eq b)) w := by
  unfold cellV
  rw [Sem.run_bind, run_eqGuard_agg w .neq 26 x y _ _ (by kernel_rfl), Result.andThen_ok, run_neq_struct]
  have := eq_cell_in a b ha hb w
  unfold cellV at this
  rw [this]; rfl
theorem neqv_mark (a b : List UInt8) (ha : a.length = 16) (hb : b.length = 16) (x y : Operand) (w : World) : (do eqGuard .neq 23 x y (markV a) (markV b); binOp .neq 23 (markV a) (markV b) : Sem Value).run Try.prog w = .ok (.bool (!(a == b))) w := by
  unfold markV
  rw [Sem.run_bind, run_eqGuard_agg w .neq 23 x y _ _ (by kernel_rfl), Result.andThen_ok, run_neq_struct]
  have := eq_mark_in 9998 a b ha hb w
  unfold markV at this
  rw [this]; rfl
end Go.Proofs.Ytkdbbdlkfpjdfaa
