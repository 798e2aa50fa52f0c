/- A statement of a function's text by its number: so that a long walk can be cut into theorems.
   Conditions: those that each theorem names. -/
import Derived.Test.YtehfinjcfjobeaaBs
namespace Go.Rg
set_option maxRecDepth 100000
set_option linter.unusedVariables false
set_option linter.unusedSimpArgs false
open Go Go.RowKit
def codeAt (blk : Bool) (n : Nat) : Code → Option Code
  | .region id ops d => if (!blk && id == n) = true then some (.region id ops d) else none
  | .seq a b => match codeAt blk n a with
    | some c => some c
    | none => codeAt blk n b
  | .cond _ a b => match codeAt blk n a with
    | some c => some c
    | none => codeAt blk n b
  | .block id b => if (blk && id == n) = true then some (.block id b) else codeAt blk n b
  | .loop b => codeAt blk n b
  | .rangeFunc _ _ a b => match codeAt blk n a with
    | some c => some c
    | none => codeAt blk n b
  | .scope b => codeAt blk n b
  | _ => none
def stmt (fn : Func) (blk : Bool) (n : Nat) : Code := (fn.body.bind (codeAt blk n)).getD .skip
theorem wp_stmt {P : Program} {fn : Func} {blk : Bool} {n : Nat} {c : Code} {Q : Exit → Act → World → Prop} {a : Act} {w : World} (h : fn.body.bind (codeAt blk n) = some c) (hw : c.wp P Q a w) : (stmt fn blk n).wp P Q a w := by
  unfold stmt; rw [h]; exact hw
end Go.Rg
