/-
  No cell of these rows narrows 'for every input' (looked for: loops, veiled, ifaces, maps, wideKeys, modest, calm, conditions, laid).
  DERIVED. THE GIVEN ROWS OF THIS SEAT. 5 by the template 'for every input the law returns true; each argument reads behind the call as it read before'; 0 by the template 'total and deterministic' (their statements: YtfmgkllnncibaaaTotals.lean).
  GIVEN WITH THE SEED: the statements are not yours to turn. If you find one false, say at which input.
  Laid BY PROGRAM, IN A SANDBOX (cutbox-rows.mjs): the forced cells as the released guide's own fill.sh prints them over the translation c9fba842ecc3af61… (all of the seat's roots in one cut). By AI agents, Wed Nov 11 2026. No macro, syntax, notation, axiom, sorry.
-/
import Derived.Test.YtfmgkllnncibaaaChecked
import GoSem.Claim
import GoSem.ClaimJoined
import GoSem.ClaimMapViews
import Derived.JoinedTies
import Derived.KernelRfl
namespace Go.Proofs.Ytfmgkllnncibaaa
/- THE CELL 'sum', in the pinned program and in every row, IS THE sha256 OF THE DUMP (.gsa) THAT YtfmgkllnncibaaaProg.lean LOADS. Nothing in Lean hashes anything: it is a label: what it is worth is what the hold of that sum in a sandbox is worth. -/
noncomputable def Try.pinned : Pinned := { name := "ytfmgkllnncibaaa", sum := "c9fba842ecc3af61930bec7fb5b03800cecc4792509cb98e69a61f8148695281", checked := Try.checked }
namespace Rows
def none {H : Type} : Left H := { results := [], args := [] }

/-- 'gleaningslaw02.PenWrites': WHATEVER THE INPUT: true; the input reads as it did. -/
def penWritesSpec : ChangeSpec := { name := "penWrites", fn := fun _ => fun
  | [d1, d2, d3] => { results := [.lit (.bool true)], args := [d1, d2, d3] }
  | _ => none }
def penWritesRow : OpenClaim := { program := "ytfmgkllnncibaaa", sum := "c9fba842ecc3af61930bec7fb5b03800cecc4792509cb98e69a61f8148695281", func := "gleanings/gleaningslaw02.PenWrites", spec := "penWrites", apart := false }
def PenWritesSaid : Prop := penWritesRow.holds Try.pinned (OpenSpec.ofChange penWritesSpec)

/-- ITS FALSE NEIGHBOUR: 'it returns false'. Refute it at one input. -/
def penWritesWrong : ChangeSpec := { name := "penWrites", fn := fun _ => fun
  | [d1, d2, d3] => { results := [.lit (.bool false)], args := [d1, d2, d3] }
  | _ => none }
def PenWritesWrongFalsely : Prop := penWritesRow.holds Try.pinned (OpenSpec.ofChange penWritesWrong)

/-- 'gleaningslaw02.PenOrder': WHATEVER THE INPUT: true; the input reads as it did. -/
def penOrderSpec : ChangeSpec := { name := "penOrder", fn := fun _ => fun
  | [d] => { results := [.lit (.bool true)], args := [d] }
  | _ => none }
def penOrderRow : OpenClaim := { program := "ytfmgkllnncibaaa", sum := "c9fba842ecc3af61930bec7fb5b03800cecc4792509cb98e69a61f8148695281", func := "gleanings/gleaningslaw02.PenOrder", spec := "penOrder", apart := false }
def PenOrderSaid : Prop := penOrderRow.holds Try.pinned (OpenSpec.ofChange penOrderSpec)

/-- ITS FALSE NEIGHBOUR: 'it returns false'. Refute it at one input. -/
def penOrderWrong : ChangeSpec := { name := "penOrder", fn := fun _ => fun
  | [d] => { results := [.lit (.bool false)], args := [d] }
  | _ => none }
def PenOrderWrongFalsely : Prop := penOrderRow.holds Try.pinned (OpenSpec.ofChange penOrderWrong)

/-- 'gleaningslaw02.PenReads': WHATEVER THE INPUT: true; the input reads as it did. -/
def penReadsSpec : ChangeSpec := { name := "penReads", fn := fun _ => fun
  | [d1, d2] => { results := [.lit (.bool true)], args := [d1, d2] }
  | _ => none }
def penReadsRow : OpenClaim := { program := "ytfmgkllnncibaaa", sum := "c9fba842ecc3af61930bec7fb5b03800cecc4792509cb98e69a61f8148695281", func := "gleanings/gleaningslaw02.PenReads", spec := "penReads", apart := false }
def PenReadsSaid : Prop := penReadsRow.holds Try.pinned (OpenSpec.ofChange penReadsSpec)

/-- ITS FALSE NEIGHBOUR: 'it returns false'. Refute it at one input. -/
def penReadsWrong : ChangeSpec := { name := "penReads", fn := fun _ => fun
  | [d1, d2] => { results := [.lit (.bool false)], args := [d1, d2] }
  | _ => none }
def PenReadsWrongFalsely : Prop := penReadsRow.holds Try.pinned (OpenSpec.ofChange penReadsWrong)

/-- 'gleaningslaw02.PenStops': WHATEVER THE INPUT: true; the input reads as it did. -/
def penStopsSpec : ChangeSpec := { name := "penStops", fn := fun _ => fun
  | [d1, d2, d3] => { results := [.lit (.bool true)], args := [d1, d2, d3] }
  | _ => none }
def penStopsRow : OpenClaim := { program := "ytfmgkllnncibaaa", sum := "c9fba842ecc3af61930bec7fb5b03800cecc4792509cb98e69a61f8148695281", func := "gleanings/gleaningslaw02.PenStops", spec := "penStops", apart := false }
def PenStopsSaid : Prop := penStopsRow.holds Try.pinned (OpenSpec.ofChange penStopsSpec)

/-- ITS FALSE NEIGHBOUR: 'it returns false'. Refute it at one input. -/
def penStopsWrong : ChangeSpec := { name := "penStops", fn := fun _ => fun
  | [d1, d2, d3] => { results := [.lit (.bool false)], args := [d1, d2, d3] }
  | _ => none }
def PenStopsWrongFalsely : Prop := penStopsRow.holds Try.pinned (OpenSpec.ofChange penStopsWrong)

/-- 'gleaningslaw02.PenWords': WHATEVER THE INPUT: true; the input reads as it did. -/
def penWordsSpec : ChangeSpec := { name := "penWords", fn := fun _ => fun
  | [d1, d2] => { results := [.lit (.bool true)], args := [d1, d2] }
  | _ => none }
def penWordsRow : OpenClaim := { program := "ytfmgkllnncibaaa", sum := "c9fba842ecc3af61930bec7fb5b03800cecc4792509cb98e69a61f8148695281", func := "gleanings/gleaningslaw02.PenWords", spec := "penWords", unfollowed := true, recurses := true, apart := false }
def PenWordsSaid : Prop := penWordsRow.holds Try.pinned (OpenSpec.ofChange penWordsSpec)

/-- ITS FALSE NEIGHBOUR: 'it returns false'. Refute it at one input. -/
def penWordsWrong : ChangeSpec := { name := "penWords", fn := fun _ => fun
  | [d1, d2] => { results := [.lit (.bool false)], args := [d1, d2] }
  | _ => none }
def PenWordsWrongFalsely : Prop := penWordsRow.holds Try.pinned (OpenSpec.ofChange penWordsWrong)

/- THE SECOND FORM. 'bulk': how many values and letters a reading holds, each counted each time it is reached (what is shared counts as often as it is met; a slice's spare places count too). A statement '..UptoSaid' is the law's where the arguments, and the package variables that the reading takes, are together of bulk at most 1048576: NARROWER than '..Said'. Prove '..Said' where nothing that the law and all that it calls make is longer than what came in: it says more and counts as full. Else prove '..UptoSaid'. A law counts once. -/
mutual
def uptoBulk {H : Type} : DataW H → Nat
  | .lit (.string bytes) => bytes.length + 1
  | .lit _ => 1
  | .nil => 1
  | .ptr d => uptoBulk d + 1
  | .slice elems spare => uptoBulkAll elems + uptoBulkAll spare + 1
  | .agg parts => uptoBulkAll parts + 1
  | .iface _ d => uptoBulk d + 1
  | .map entries => uptoBulkEntries entries + 1
  | .held _ => 1
def uptoBulkAll {H : Type} : List (DataW H) → Nat
  | [] => 0
  | d :: r => uptoBulk d + uptoBulkAll r
def uptoBulkEntries {H : Type} : List (Lit × DataW H) → Nat
  | [] => 0
  | x :: r => uptoBulkEntry x + uptoBulkEntries r
def uptoBulkEntry {H : Type} : Lit × DataW H → Nat
  | (.string bytes, d) => bytes.length + uptoBulk d + 1
  | (_, d) => uptoBulk d + 1
 end
def uptoSmall : (H : Type) → List (DataW H) → Bool := fun _ ds => decide (uptoBulkAll ds ≤ 1048576)
def OpenSpec.upto (s : _root_.Go.ChangeSpec) : _root_.Go.OpenSpec := { _root_.Go.OpenSpec.ofChange s with cond := some uptoSmall }

/-- 'gleaningslaw02.PenWrites', WHERE WHAT IT READS IS OF BULK AT MOST 1048576: true; the input reads as it did. -/
def penWritesUptoRow : OpenClaim := { program := "ytfmgkllnncibaaa", sum := "c9fba842ecc3af61930bec7fb5b03800cecc4792509cb98e69a61f8148695281", func := "gleanings/gleaningslaw02.PenWrites", spec := "penWrites", apart := false, narrowed := true }
def PenWritesUptoSaid : Prop := penWritesUptoRow.holds Try.pinned (OpenSpec.upto penWritesSpec)

/-- 'gleaningslaw02.PenOrder', WHERE WHAT IT READS IS OF BULK AT MOST 1048576: true; the input reads as it did. -/
def penOrderUptoRow : OpenClaim := { program := "ytfmgkllnncibaaa", sum := "c9fba842ecc3af61930bec7fb5b03800cecc4792509cb98e69a61f8148695281", func := "gleanings/gleaningslaw02.PenOrder", spec := "penOrder", apart := false, narrowed := true }
def PenOrderUptoSaid : Prop := penOrderUptoRow.holds Try.pinned (OpenSpec.upto penOrderSpec)

/-- 'gleaningslaw02.PenReads', WHERE WHAT IT READS IS OF BULK AT MOST 1048576: true; the input reads as it did. -/
def penReadsUptoRow : OpenClaim := { program := "ytfmgkllnncibaaa", sum := "c9fba842ecc3af61930bec7fb5b03800cecc4792509cb98e69a61f8148695281", func := "gleanings/gleaningslaw02.PenReads", spec := "penReads", apart := false, narrowed := true }
def PenReadsUptoSaid : Prop := penReadsUptoRow.holds Try.pinned (OpenSpec.upto penReadsSpec)

/-- 'gleaningslaw02.PenStops', WHERE WHAT IT READS IS OF BULK AT MOST 1048576: true; the input reads as it did. -/
def penStopsUptoRow : OpenClaim := { program := "ytfmgkllnncibaaa", sum := "c9fba842ecc3af61930bec7fb5b03800cecc4792509cb98e69a61f8148695281", func := "gleanings/gleaningslaw02.PenStops", spec := "penStops", apart := false, narrowed := true }
def PenStopsUptoSaid : Prop := penStopsUptoRow.holds Try.pinned (OpenSpec.upto penStopsSpec)

/-- 'gleaningslaw02.PenWords', WHERE WHAT IT READS IS OF BULK AT MOST 1048576: true; the input reads as it did. -/
def penWordsUptoRow : OpenClaim := { program := "ytfmgkllnncibaaa", sum := "c9fba842ecc3af61930bec7fb5b03800cecc4792509cb98e69a61f8148695281", func := "gleanings/gleaningslaw02.PenWords", spec := "penWords", unfollowed := true, recurses := true, apart := false, narrowed := true }
def PenWordsUptoSaid : Prop := penWordsUptoRow.holds Try.pinned (OpenSpec.upto penWordsSpec)

end Rows
end Go.Proofs.Ytfmgkllnncibaaa
