/-
  No cell of these rows narrows 'for every input' (looked for: loops, veiled, ifaces, maps, wideKeys, modest, calm, conditions, laid).
  DERIVED. THE GIVEN ROWS OF THIS SEAT. 4 by the template 'for every input the law returns true; each argument reads behind the call as it read before'; 0 by the template 'total and deterministic' (their statements: YtfebfpfmjdeedaaTotals.lean).
  GIVEN WITH THE SEED: the statements are not yours to turn. If you find one false, say at which input.
  Laid BY PROGRAM, IN A SANDBOX (cutbox-rows.mjs): the forced cells as the released guide's own fill.sh prints them over the translation 36d1c52b30f1ecc5… (all of the seat's roots in one cut). By AI agents, Wed Nov 11 2026. No macro, syntax, notation, axiom, sorry.
-/
import Derived.Test.YtfebfpfmjdeedaaChecked
import GoSem.Claim
import GoSem.ClaimJoined
import GoSem.ClaimMapViews
import Derived.JoinedTies
import Derived.KernelRfl
namespace Go.Proofs.Ytfebfpfmjdeedaa
/- THE CELL 'sum', in the pinned program and in every row, IS THE sha256 OF THE DUMP (.gsa) THAT YtfebfpfmjdeedaaProg.lean LOADS. Nothing in Lean hashes anything: it is a label: what it is worth is what the hold of that sum in a sandbox is worth. -/
noncomputable def Try.pinned : Pinned := { name := "ytfebfpfmjdeedaa", sum := "36d1c52b30f1ecc54375504a62596e2a3e34401d76955851faa1b02d09f564dc", checked := Try.checked }
namespace Rows
def none {H : Type} : Left H := { results := [], args := [] }

/-- 'gleaningslaw01.SipSums': WHATEVER THE INPUT: true; the input reads as it did. -/
def sipSumsSpec : ChangeSpec := { name := "sipSums", fn := fun _ => fun
  | [d1, d2, d3] => { results := [.lit (.bool true)], args := [d1, d2, d3] }
  | _ => none }
def sipSumsRow : OpenClaim := { program := "ytfebfpfmjdeedaa", sum := "36d1c52b30f1ecc54375504a62596e2a3e34401d76955851faa1b02d09f564dc", func := "gleanings/gleaningslaw01.SipSums", spec := "sipSums", apart := false }
def SipSumsSaid : Prop := sipSumsRow.holds Try.pinned (OpenSpec.ofChange sipSumsSpec)

/-- ITS FALSE NEIGHBOUR: 'it returns false'. Refute it at one input. -/
def sipSumsWrong : ChangeSpec := { name := "sipSums", fn := fun _ => fun
  | [d1, d2, d3] => { results := [.lit (.bool false)], args := [d1, d2, d3] }
  | _ => none }
def SipSumsWrongFalsely : Prop := sipSumsRow.holds Try.pinned (OpenSpec.ofChange sipSumsWrong)

/-- 'gleaningslaw01.SipParts': WHATEVER THE INPUT: true; the input reads as it did. -/
def sipPartsSpec : ChangeSpec := { name := "sipParts", fn := fun _ => fun
  | [d1, d2, d3] => { results := [.lit (.bool true)], args := [d1, d2, d3] }
  | _ => none }
def sipPartsRow : OpenClaim := { program := "ytfebfpfmjdeedaa", sum := "36d1c52b30f1ecc54375504a62596e2a3e34401d76955851faa1b02d09f564dc", func := "gleanings/gleaningslaw01.SipParts", spec := "sipParts", apart := false }
def SipPartsSaid : Prop := sipPartsRow.holds Try.pinned (OpenSpec.ofChange sipPartsSpec)

/-- ITS FALSE NEIGHBOUR: 'it returns false'. Refute it at one input. -/
def sipPartsWrong : ChangeSpec := { name := "sipParts", fn := fun _ => fun
  | [d1, d2, d3] => { results := [.lit (.bool false)], args := [d1, d2, d3] }
  | _ => none }
def SipPartsWrongFalsely : Prop := sipPartsRow.holds Try.pinned (OpenSpec.ofChange sipPartsWrong)

/-- 'gleaningslaw01.SipHalves': WHATEVER THE INPUT: true; the input reads as it did. -/
def sipHalvesSpec : ChangeSpec := { name := "sipHalves", fn := fun _ => fun
  | [d] => { results := [.lit (.bool true)], args := [d] }
  | _ => none }
def sipHalvesRow : OpenClaim := { program := "ytfebfpfmjdeedaa", sum := "36d1c52b30f1ecc54375504a62596e2a3e34401d76955851faa1b02d09f564dc", func := "gleanings/gleaningslaw01.SipHalves", spec := "sipHalves", apart := false }
def SipHalvesSaid : Prop := sipHalvesRow.holds Try.pinned (OpenSpec.ofChange sipHalvesSpec)

/-- ITS FALSE NEIGHBOUR: 'it returns false'. Refute it at one input. -/
def sipHalvesWrong : ChangeSpec := { name := "sipHalves", fn := fun _ => fun
  | [d] => { results := [.lit (.bool false)], args := [d] }
  | _ => none }
def SipHalvesWrongFalsely : Prop := sipHalvesRow.holds Try.pinned (OpenSpec.ofChange sipHalvesWrong)

/-- 'gleaningslaw01.SipPlays': WHATEVER THE INPUT: true; the input reads as it did. -/
def sipPlaysSpec : ChangeSpec := { name := "sipPlays", fn := fun _ => fun
  | [d1, d2] => { results := [.lit (.bool true)], args := [d1, d2] }
  | _ => none }
def sipPlaysRow : OpenClaim := { program := "ytfebfpfmjdeedaa", sum := "36d1c52b30f1ecc54375504a62596e2a3e34401d76955851faa1b02d09f564dc", func := "gleanings/gleaningslaw01.SipPlays", spec := "sipPlays", apart := false }
def SipPlaysSaid : Prop := sipPlaysRow.holds Try.pinned (OpenSpec.ofChange sipPlaysSpec)

/-- ITS FALSE NEIGHBOUR: 'it returns false'. Refute it at one input. -/
def sipPlaysWrong : ChangeSpec := { name := "sipPlays", fn := fun _ => fun
  | [d1, d2] => { results := [.lit (.bool false)], args := [d1, d2] }
  | _ => none }
def SipPlaysWrongFalsely : Prop := sipPlaysRow.holds Try.pinned (OpenSpec.ofChange sipPlaysWrong)

/- THE SECOND FORM. 'bulk': how many values and letters a reading holds, each counted each time it is reached (what is shared counts as often as it is met; a slice's spare places count too). A statement '..UptoSaid' is the law's where the arguments, and the package variables that the reading takes, are together of bulk at most 1048576: NARROWER than '..Said'. Prove '..Said' where nothing that the law and all that it calls make is longer than what came in: it says more and counts as full. Else prove '..UptoSaid'. A law counts once. -/
mutual
def uptoBulk {H : Type} : DataW H → Nat
  | .lit (.string bytes) => bytes.length + 1
  | .lit _ => 1
  | .nil => 1
  | .ptr d => uptoBulk d + 1
  | .slice elems spare => uptoBulkAll elems + uptoBulkAll spare + 1
  | .agg parts => uptoBulkAll parts + 1
  | .iface _ d => uptoBulk d + 1
  | .map entries => uptoBulkEntries entries + 1
  | .held _ => 1
def uptoBulkAll {H : Type} : List (DataW H) → Nat
  | [] => 0
  | d :: r => uptoBulk d + uptoBulkAll r
def uptoBulkEntries {H : Type} : List (Lit × DataW H) → Nat
  | [] => 0
  | x :: r => uptoBulkEntry x + uptoBulkEntries r
def uptoBulkEntry {H : Type} : Lit × DataW H → Nat
  | (.string bytes, d) => bytes.length + uptoBulk d + 1
  | (_, d) => uptoBulk d + 1
 end
def uptoSmall : (H : Type) → List (DataW H) → Bool := fun _ ds => decide (uptoBulkAll ds ≤ 1048576)
def OpenSpec.upto (s : _root_.Go.ChangeSpec) : _root_.Go.OpenSpec := { _root_.Go.OpenSpec.ofChange s with cond := some uptoSmall }

/-- 'gleaningslaw01.SipSums', WHERE WHAT IT READS IS OF BULK AT MOST 1048576: true; the input reads as it did. -/
def sipSumsUptoRow : OpenClaim := { program := "ytfebfpfmjdeedaa", sum := "36d1c52b30f1ecc54375504a62596e2a3e34401d76955851faa1b02d09f564dc", func := "gleanings/gleaningslaw01.SipSums", spec := "sipSums", apart := false, narrowed := true }
def SipSumsUptoSaid : Prop := sipSumsUptoRow.holds Try.pinned (OpenSpec.upto sipSumsSpec)

/-- 'gleaningslaw01.SipParts', WHERE WHAT IT READS IS OF BULK AT MOST 1048576: true; the input reads as it did. -/
def sipPartsUptoRow : OpenClaim := { program := "ytfebfpfmjdeedaa", sum := "36d1c52b30f1ecc54375504a62596e2a3e34401d76955851faa1b02d09f564dc", func := "gleanings/gleaningslaw01.SipParts", spec := "sipParts", apart := false, narrowed := true }
def SipPartsUptoSaid : Prop := sipPartsUptoRow.holds Try.pinned (OpenSpec.upto sipPartsSpec)

/-- 'gleaningslaw01.SipHalves', WHERE WHAT IT READS IS OF BULK AT MOST 1048576: true; the input reads as it did. -/
def sipHalvesUptoRow : OpenClaim := { program := "ytfebfpfmjdeedaa", sum := "36d1c52b30f1ecc54375504a62596e2a3e34401d76955851faa1b02d09f564dc", func := "gleanings/gleaningslaw01.SipHalves", spec := "sipHalves", apart := false, narrowed := true }
def SipHalvesUptoSaid : Prop := sipHalvesUptoRow.holds Try.pinned (OpenSpec.upto sipHalvesSpec)

/-- 'gleaningslaw01.SipPlays', WHERE WHAT IT READS IS OF BULK AT MOST 1048576: true; the input reads as it did. -/
def sipPlaysUptoRow : OpenClaim := { program := "ytfebfpfmjdeedaa", sum := "36d1c52b30f1ecc54375504a62596e2a3e34401d76955851faa1b02d09f564dc", func := "gleanings/gleaningslaw01.SipPlays", spec := "sipPlays", apart := false, narrowed := true }
def SipPlaysUptoSaid : Prop := sipPlaysUptoRow.holds Try.pinned (OpenSpec.upto sipPlaysSpec)

end Rows
end Go.Proofs.Ytfebfpfmjdeedaa
