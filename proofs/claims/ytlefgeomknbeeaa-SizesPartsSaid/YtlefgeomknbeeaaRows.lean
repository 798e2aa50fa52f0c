/-
  No cell of these rows narrows 'for every input' (looked for: loops, veiled, ifaces, maps, wideKeys, modest, calm, conditions, laid).
  DERIVED. THE GIVEN ROWS OF THIS SEAT. 3 by the template 'for every input the law returns true; each argument reads behind the call as it read before'; 0 by the template 'total and deterministic' (their statements: YtlefgeomknbeeaaTotals.lean).
  GIVEN WITH THE SEED: the statements are not yours to turn. If you find one false, say at which input.
  Laid BY PROGRAM, IN A SANDBOX (cutbox-rows.mjs): the forced cells as the released guide's own fill.sh prints them over the translation bbc83aa08b38fb50… (all of the seat's roots in one cut). By AI agents, Wed Nov 11 2026. No macro, syntax, notation, axiom, sorry.
-/
import Derived.Test.YtlefgeomknbeeaaChecked
import GoSem.Claim
import GoSem.ClaimJoined
import GoSem.ClaimMapViews
import Derived.JoinedTies
import Derived.KernelRfl
namespace Go.Proofs.Ytlefgeomknbeeaa
/- THE CELL 'sum', in the pinned program and in every row, IS THE sha256 OF THE DUMP (.gsa) THAT YtlefgeomknbeeaaProg.lean LOADS. Nothing in Lean hashes anything: it is a label: what it is worth is what the hold of that sum in a sandbox is worth. -/
noncomputable def Try.pinned : Pinned := { name := "ytlefgeomknbeeaa", sum := "bbc83aa08b38fb5049aa5869f487e67d7dbd624066977c32b8ae06c91045cbbf", checked := Try.checked }
namespace Rows
def none {H : Type} : Left H := { results := [], args := [] }

/-- 'gleaningslaw14.SizesRounds': WHATEVER THE INPUT: true; the input reads as it did. -/
def sizesRoundsSpec : ChangeSpec := { name := "sizesRounds", fn := fun _ => fun
  | [d1, d2, d3] => { results := [.lit (.bool true)], args := [d1, d2, d3] }
  | _ => none }
def sizesRoundsRow : OpenClaim := { program := "ytlefgeomknbeeaa", sum := "bbc83aa08b38fb5049aa5869f487e67d7dbd624066977c32b8ae06c91045cbbf", func := "gleanings/gleaningslaw14.SizesRounds", spec := "sizesRounds", unfollowed := true, recurses := true, apart := false }
def SizesRoundsSaid : Prop := sizesRoundsRow.holds Try.pinned (OpenSpec.ofChange sizesRoundsSpec)

/-- ITS FALSE NEIGHBOUR: 'it returns false'. Refute it at one input. -/
def sizesRoundsWrong : ChangeSpec := { name := "sizesRounds", fn := fun _ => fun
  | [d1, d2, d3] => { results := [.lit (.bool false)], args := [d1, d2, d3] }
  | _ => none }
def SizesRoundsWrongFalsely : Prop := sizesRoundsRow.holds Try.pinned (OpenSpec.ofChange sizesRoundsWrong)

/-- 'gleaningslaw14.SizesParts': WHATEVER THE INPUT: true; the input reads as it did. -/
def sizesPartsSpec : ChangeSpec := { name := "sizesParts", fn := fun _ => fun
  | [d1, d2] => { results := [.lit (.bool true)], args := [d1, d2] }
  | _ => none }
def sizesPartsRow : OpenClaim := { program := "ytlefgeomknbeeaa", sum := "bbc83aa08b38fb5049aa5869f487e67d7dbd624066977c32b8ae06c91045cbbf", func := "gleanings/gleaningslaw14.SizesParts", spec := "sizesParts", unfollowed := true, recurses := true, apart := false }
def SizesPartsSaid : Prop := sizesPartsRow.holds Try.pinned (OpenSpec.ofChange sizesPartsSpec)

/-- ITS FALSE NEIGHBOUR: 'it returns false'. Refute it at one input. -/
def sizesPartsWrong : ChangeSpec := { name := "sizesParts", fn := fun _ => fun
  | [d1, d2] => { results := [.lit (.bool false)], args := [d1, d2] }
  | _ => none }
def SizesPartsWrongFalsely : Prop := sizesPartsRow.holds Try.pinned (OpenSpec.ofChange sizesPartsWrong)

/-- 'gleaningslaw14.SizesHold': WHATEVER THE INPUT: true; the input reads as it did. -/
def sizesHoldSpec : ChangeSpec := { name := "sizesHold", fn := fun _ => fun
  | [d1, d2] => { results := [.lit (.bool true)], args := [d1, d2] }
  | _ => none }
def sizesHoldRow : OpenClaim := { program := "ytlefgeomknbeeaa", sum := "bbc83aa08b38fb5049aa5869f487e67d7dbd624066977c32b8ae06c91045cbbf", func := "gleanings/gleaningslaw14.SizesHold", spec := "sizesHold", unfollowed := true, recurses := true, apart := false }
def SizesHoldSaid : Prop := sizesHoldRow.holds Try.pinned (OpenSpec.ofChange sizesHoldSpec)

/-- ITS FALSE NEIGHBOUR: 'it returns false'. Refute it at one input. -/
def sizesHoldWrong : ChangeSpec := { name := "sizesHold", fn := fun _ => fun
  | [d1, d2] => { results := [.lit (.bool false)], args := [d1, d2] }
  | _ => none }
def SizesHoldWrongFalsely : Prop := sizesHoldRow.holds Try.pinned (OpenSpec.ofChange sizesHoldWrong)

/- THE SECOND FORM. 'bulk': how many values and letters a reading holds, each counted each time it is reached (what is shared counts as often as it is met; a slice's spare places count too). A statement '..UptoSaid' is the law's where the arguments, and the package variables that the reading takes, are together of bulk at most 1048576: NARROWER than '..Said'. Prove '..Said' where nothing that the law and all that it calls make is longer than what came in: it says more and counts as full. Else prove '..UptoSaid'. A law counts once. -/
mutual
def uptoBulk {H : Type} : DataW H → Nat
  | .lit (.string bytes) => bytes.length + 1
  | .lit _ => 1
  | .nil => 1
  | .ptr d => uptoBulk d + 1
  | .slice elems spare => uptoBulkAll elems + uptoBulkAll spare + 1
  | .agg parts => uptoBulkAll parts + 1
  | .iface _ d => uptoBulk d + 1
  | .map entries => uptoBulkEntries entries + 1
  | .held _ => 1
def uptoBulkAll {H : Type} : List (DataW H) → Nat
  | [] => 0
  | d :: r => uptoBulk d + uptoBulkAll r
def uptoBulkEntries {H : Type} : List (Lit × DataW H) → Nat
  | [] => 0
  | x :: r => uptoBulkEntry x + uptoBulkEntries r
def uptoBulkEntry {H : Type} : Lit × DataW H → Nat
  | (.string bytes, d) => bytes.length + uptoBulk d + 1
  | (_, d) => uptoBulk d + 1
 end
def uptoSmall : (H : Type) → List (DataW H) → Bool := fun _ ds => decide (uptoBulkAll ds ≤ 1048576)
def OpenSpec.upto (s : _root_.Go.ChangeSpec) : _root_.Go.OpenSpec := { _root_.Go.OpenSpec.ofChange s with cond := some uptoSmall }

/-- 'gleaningslaw14.SizesRounds', WHERE WHAT IT READS IS OF BULK AT MOST 1048576: true; the input reads as it did. -/
def sizesRoundsUptoRow : OpenClaim := { program := "ytlefgeomknbeeaa", sum := "bbc83aa08b38fb5049aa5869f487e67d7dbd624066977c32b8ae06c91045cbbf", func := "gleanings/gleaningslaw14.SizesRounds", spec := "sizesRounds", unfollowed := true, recurses := true, apart := false, narrowed := true }
def SizesRoundsUptoSaid : Prop := sizesRoundsUptoRow.holds Try.pinned (OpenSpec.upto sizesRoundsSpec)

/-- 'gleaningslaw14.SizesParts', WHERE WHAT IT READS IS OF BULK AT MOST 1048576: true; the input reads as it did. -/
def sizesPartsUptoRow : OpenClaim := { program := "ytlefgeomknbeeaa", sum := "bbc83aa08b38fb5049aa5869f487e67d7dbd624066977c32b8ae06c91045cbbf", func := "gleanings/gleaningslaw14.SizesParts", spec := "sizesParts", unfollowed := true, recurses := true, apart := false, narrowed := true }
def SizesPartsUptoSaid : Prop := sizesPartsUptoRow.holds Try.pinned (OpenSpec.upto sizesPartsSpec)

/-- 'gleaningslaw14.SizesHold', WHERE WHAT IT READS IS OF BULK AT MOST 1048576: true; the input reads as it did. -/
def sizesHoldUptoRow : OpenClaim := { program := "ytlefgeomknbeeaa", sum := "bbc83aa08b38fb5049aa5869f487e67d7dbd624066977c32b8ae06c91045cbbf", func := "gleanings/gleaningslaw14.SizesHold", spec := "sizesHold", unfollowed := true, recurses := true, apart := false, narrowed := true }
def SizesHoldUptoSaid : Prop := sizesHoldUptoRow.holds Try.pinned (OpenSpec.upto sizesHoldSpec)

end Rows
end Go.Proofs.Ytlefgeomknbeeaa
