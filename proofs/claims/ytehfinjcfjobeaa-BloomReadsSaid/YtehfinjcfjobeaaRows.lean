/-
  No cell of these rows narrows 'for every input' (looked for: loops, veiled, ifaces, maps, wideKeys, modest, calm, conditions, laid).
  DERIVED. THE GIVEN ROWS OF THIS SEAT. 4 by the template 'for every input the law returns true; each argument reads behind the call as it read before'; 0 by the template 'total and deterministic' (their statements: YtehfinjcfjobeaaTotals.lean).
  GIVEN WITH THE SEED: the statements are not yours to turn. If you find one false, say at which input.
  Laid BY PROGRAM, IN A SANDBOX (cutbox-rows.mjs): the forced cells as the released guide's own fill.sh prints them over the translation cbdfdd0f81605b12… (all of the seat's roots in one cut). By AI agents, Wed Nov 11 2026. No macro, syntax, notation, axiom, sorry.
-/
import Derived.Test.YtehfinjcfjobeaaChecked
import GoSem.Claim
import GoSem.ClaimJoined
import GoSem.ClaimMapViews
import Derived.JoinedTies
import Derived.KernelRfl
namespace Go.Proofs.Ytehfinjcfjobeaa
/- THE CELL 'sum', in the pinned program and in every row, IS THE sha256 OF THE DUMP (.gsa) THAT YtehfinjcfjobeaaProg.lean LOADS. Nothing in Lean hashes anything: it is a label: what it is worth is what the hold of that sum in a sandbox is worth. -/
noncomputable def Try.pinned : Pinned := { name := "ytehfinjcfjobeaa", sum := "cbdfdd0f81605b12f628a50c90a3de3140d258f78cecd20688aeb28da5a3ac47", checked := Try.checked }
namespace Rows
def none {H : Type} : Left H := { results := [], args := [] }

/-- 'gleaningslaw15.BloomHolds': WHATEVER THE INPUT: true; the input reads as it did. -/
def bloomHoldsSpec : ChangeSpec := { name := "bloomHolds", fn := fun _ => fun
  | [d] => { results := [.lit (.bool true)], args := [d] }
  | _ => none }
def bloomHoldsRow : OpenClaim := { program := "ytehfinjcfjobeaa", sum := "cbdfdd0f81605b12f628a50c90a3de3140d258f78cecd20688aeb28da5a3ac47", func := "gleanings/gleaningslaw15.BloomHolds", spec := "bloomHolds", unfollowed := true, recurses := true, apart := false }
def BloomHoldsSaid : Prop := bloomHoldsRow.holds Try.pinned (OpenSpec.ofChange bloomHoldsSpec)

/-- ITS FALSE NEIGHBOUR: 'it returns false'. Refute it at one input. -/
def bloomHoldsWrong : ChangeSpec := { name := "bloomHolds", fn := fun _ => fun
  | [d] => { results := [.lit (.bool false)], args := [d] }
  | _ => none }
def BloomHoldsWrongFalsely : Prop := bloomHoldsRow.holds Try.pinned (OpenSpec.ofChange bloomHoldsWrong)

/-- 'gleaningslaw15.BloomOrder': WHATEVER THE INPUT: true; the input reads as it did. -/
def bloomOrderSpec : ChangeSpec := { name := "bloomOrder", fn := fun _ => fun
  | [d] => { results := [.lit (.bool true)], args := [d] }
  | _ => none }
def bloomOrderRow : OpenClaim := { program := "ytehfinjcfjobeaa", sum := "cbdfdd0f81605b12f628a50c90a3de3140d258f78cecd20688aeb28da5a3ac47", func := "gleanings/gleaningslaw15.BloomOrder", spec := "bloomOrder", unfollowed := true, recurses := true, apart := false }
def BloomOrderSaid : Prop := bloomOrderRow.holds Try.pinned (OpenSpec.ofChange bloomOrderSpec)

/-- ITS FALSE NEIGHBOUR: 'it returns false'. Refute it at one input. -/
def bloomOrderWrong : ChangeSpec := { name := "bloomOrder", fn := fun _ => fun
  | [d] => { results := [.lit (.bool false)], args := [d] }
  | _ => none }
def BloomOrderWrongFalsely : Prop := bloomOrderRow.holds Try.pinned (OpenSpec.ofChange bloomOrderWrong)

/-- 'gleaningslaw15.BloomTells': WHATEVER THE INPUT: true; the input reads as it did. -/
def bloomTellsSpec : ChangeSpec := { name := "bloomTells", fn := fun _ => fun
  | [d] => { results := [.lit (.bool true)], args := [d] }
  | _ => none }
def bloomTellsRow : OpenClaim := { program := "ytehfinjcfjobeaa", sum := "cbdfdd0f81605b12f628a50c90a3de3140d258f78cecd20688aeb28da5a3ac47", func := "gleanings/gleaningslaw15.BloomTells", spec := "bloomTells", unfollowed := true, recurses := true, apart := false }
def BloomTellsSaid : Prop := bloomTellsRow.holds Try.pinned (OpenSpec.ofChange bloomTellsSpec)

/-- ITS FALSE NEIGHBOUR: 'it returns false'. Refute it at one input. -/
def bloomTellsWrong : ChangeSpec := { name := "bloomTells", fn := fun _ => fun
  | [d] => { results := [.lit (.bool false)], args := [d] }
  | _ => none }
def BloomTellsWrongFalsely : Prop := bloomTellsRow.holds Try.pinned (OpenSpec.ofChange bloomTellsWrong)

/-- 'gleaningslaw15.BloomReads': WHATEVER THE INPUT: true; the input reads as it did. -/
def bloomReadsSpec : ChangeSpec := { name := "bloomReads", fn := fun _ => fun
  | [d1, d2] => { results := [.lit (.bool true)], args := [d1, d2] }
  | _ => none }
def bloomReadsRow : OpenClaim := { program := "ytehfinjcfjobeaa", sum := "cbdfdd0f81605b12f628a50c90a3de3140d258f78cecd20688aeb28da5a3ac47", func := "gleanings/gleaningslaw15.BloomReads", spec := "bloomReads", unfollowed := true, recurses := true, apart := false }
def BloomReadsSaid : Prop := bloomReadsRow.holds Try.pinned (OpenSpec.ofChange bloomReadsSpec)

/-- ITS FALSE NEIGHBOUR: 'it returns false'. Refute it at one input. -/
def bloomReadsWrong : ChangeSpec := { name := "bloomReads", fn := fun _ => fun
  | [d1, d2] => { results := [.lit (.bool false)], args := [d1, d2] }
  | _ => none }
def BloomReadsWrongFalsely : Prop := bloomReadsRow.holds Try.pinned (OpenSpec.ofChange bloomReadsWrong)

/- THE SECOND FORM. 'bulk': how many values and letters a reading holds, each counted each time it is reached (what is shared counts as often as it is met; a slice's spare places count too). A statement '..UptoSaid' is the law's where the arguments, and the package variables that the reading takes, are together of bulk at most 1048576: NARROWER than '..Said'. Prove '..Said' where nothing that the law and all that it calls make is longer than what came in: it says more and counts as full. Else prove '..UptoSaid'. A law counts once. -/
mutual
def uptoBulk {H : Type} : DataW H → Nat
  | .lit (.string bytes) => bytes.length + 1
  | .lit _ => 1
  | .nil => 1
  | .ptr d => uptoBulk d + 1
  | .slice elems spare => uptoBulkAll elems + uptoBulkAll spare + 1
  | .agg parts => uptoBulkAll parts + 1
  | .iface _ d => uptoBulk d + 1
  | .map entries => uptoBulkEntries entries + 1
  | .held _ => 1
def uptoBulkAll {H : Type} : List (DataW H) → Nat
  | [] => 0
  | d :: r => uptoBulk d + uptoBulkAll r
def uptoBulkEntries {H : Type} : List (Lit × DataW H) → Nat
  | [] => 0
  | x :: r => uptoBulkEntry x + uptoBulkEntries r
def uptoBulkEntry {H : Type} : Lit × DataW H → Nat
  | (.string bytes, d) => bytes.length + uptoBulk d + 1
  | (_, d) => uptoBulk d + 1
 end
def uptoSmall : (H : Type) → List (DataW H) → Bool := fun _ ds => decide (uptoBulkAll ds ≤ 1048576)
def OpenSpec.upto (s : _root_.Go.ChangeSpec) : _root_.Go.OpenSpec := { _root_.Go.OpenSpec.ofChange s with cond := some uptoSmall }

/-- 'gleaningslaw15.BloomHolds', WHERE WHAT IT READS IS OF BULK AT MOST 1048576: true; the input reads as it did. -/
def bloomHoldsUptoRow : OpenClaim := { program := "ytehfinjcfjobeaa", sum := "cbdfdd0f81605b12f628a50c90a3de3140d258f78cecd20688aeb28da5a3ac47", func := "gleanings/gleaningslaw15.BloomHolds", spec := "bloomHolds", unfollowed := true, recurses := true, apart := false, narrowed := true }
def BloomHoldsUptoSaid : Prop := bloomHoldsUptoRow.holds Try.pinned (OpenSpec.upto bloomHoldsSpec)

/-- 'gleaningslaw15.BloomOrder', WHERE WHAT IT READS IS OF BULK AT MOST 1048576: true; the input reads as it did. -/
def bloomOrderUptoRow : OpenClaim := { program := "ytehfinjcfjobeaa", sum := "cbdfdd0f81605b12f628a50c90a3de3140d258f78cecd20688aeb28da5a3ac47", func := "gleanings/gleaningslaw15.BloomOrder", spec := "bloomOrder", unfollowed := true, recurses := true, apart := false, narrowed := true }
def BloomOrderUptoSaid : Prop := bloomOrderUptoRow.holds Try.pinned (OpenSpec.upto bloomOrderSpec)

/-- 'gleaningslaw15.BloomTells', WHERE WHAT IT READS IS OF BULK AT MOST 1048576: true; the input reads as it did. -/
def bloomTellsUptoRow : OpenClaim := { program := "ytehfinjcfjobeaa", sum := "cbdfdd0f81605b12f628a50c90a3de3140d258f78cecd20688aeb28da5a3ac47", func := "gleanings/gleaningslaw15.BloomTells", spec := "bloomTells", unfollowed := true, recurses := true, apart := false, narrowed := true }
def BloomTellsUptoSaid : Prop := bloomTellsUptoRow.holds Try.pinned (OpenSpec.upto bloomTellsSpec)

/-- 'gleaningslaw15.BloomReads', WHERE WHAT IT READS IS OF BULK AT MOST 1048576: true; the input reads as it did. -/
def bloomReadsUptoRow : OpenClaim := { program := "ytehfinjcfjobeaa", sum := "cbdfdd0f81605b12f628a50c90a3de3140d258f78cecd20688aeb28da5a3ac47", func := "gleanings/gleaningslaw15.BloomReads", spec := "bloomReads", unfollowed := true, recurses := true, apart := false, narrowed := true }
def BloomReadsUptoSaid : Prop := bloomReadsUptoRow.holds Try.pinned (OpenSpec.upto bloomReadsSpec)

end Rows
end Go.Proofs.Ytehfinjcfjobeaa
