/-
  No cell of these rows narrows 'for every input' (looked for: loops, veiled, ifaces, maps, wideKeys, modest, calm, conditions, laid).
  DERIVED. THE GIVEN ROWS OF THIS SEAT. 9 by the template 'for every input the law returns true; each argument reads behind the call as it read before'; 0 by the template 'total and deterministic' (their statements: YtkdbbdlkfpjdfaaTotals.lean).
  GIVEN WITH THE SEED: the statements are not yours to turn. If you find one false, say at which input.
  Laid BY PROGRAM, IN A SANDBOX (cutbox-rows.mjs): the forced cells as the released guide's own fill.sh prints them over the translation ec145c21e049dc66… (all of the seat's roots in one cut). By AI agents, Wed Nov 11 2026. No macro, syntax, notation, axiom, sorry.
-/
import Derived.Test.YtkdbbdlkfpjdfaaChecked
import GoSem.Claim
import GoSem.ClaimJoined
import GoSem.ClaimMapViews
import Derived.JoinedTies
import Derived.KernelRfl
namespace Go.Proofs.Ytkdbbdlkfpjdfaa
/- THE CELL 'sum', in the pinned program and in every row, IS THE sha256 OF THE DUMP (.gsa) THAT YtkdbbdlkfpjdfaaProg.lean LOADS. Nothing in Lean hashes anything: it is a label: what it is worth is what the hold of that sum in a sandbox is worth. -/
noncomputable def Try.pinned : Pinned := { name := "ytkdbbdlkfpjdfaa", sum := "ec145c21e049dc66cb6e081dd1ab424e41aeb3df0004f1075add0956af0ec00c", checked := Try.checked }
namespace Rows
def none {H : Type} : Left H := { results := [], args := [] }

/-- 'gleaningslaw10.CellTells': WHATEVER THE INPUT: true; the input reads as it did. -/
def cellTellsSpec : ChangeSpec := { name := "cellTells", fn := fun _ => fun
  | [d] => { results := [.lit (.bool true)], args := [d] }
  | _ => none }
def cellTellsRow : OpenClaim := { program := "ytkdbbdlkfpjdfaa", sum := "ec145c21e049dc66cb6e081dd1ab424e41aeb3df0004f1075add0956af0ec00c", func := "gleanings/gleaningslaw10.CellTells", spec := "cellTells", apart := false }
def CellTellsSaid : Prop := cellTellsRow.holds Try.pinned (OpenSpec.ofChange cellTellsSpec)

/-- ITS FALSE NEIGHBOUR: 'it returns false'. Refute it at one input. -/
def cellTellsWrong : ChangeSpec := { name := "cellTells", fn := fun _ => fun
  | [d] => { results := [.lit (.bool false)], args := [d] }
  | _ => none }
def CellTellsWrongFalsely : Prop := cellTellsRow.holds Try.pinned (OpenSpec.ofChange cellTellsWrong)

/-- 'gleaningslaw10.CellHolds': WHATEVER THE INPUT: true; the input reads as it did. -/
def cellHoldsSpec : ChangeSpec := { name := "cellHolds", fn := fun _ => fun
  | [d] => { results := [.lit (.bool true)], args := [d] }
  | _ => none }
def cellHoldsRow : OpenClaim := { program := "ytkdbbdlkfpjdfaa", sum := "ec145c21e049dc66cb6e081dd1ab424e41aeb3df0004f1075add0956af0ec00c", func := "gleanings/gleaningslaw10.CellHolds", spec := "cellHolds", apart := false }
def CellHoldsSaid : Prop := cellHoldsRow.holds Try.pinned (OpenSpec.ofChange cellHoldsSpec)

/-- ITS FALSE NEIGHBOUR: 'it returns false'. Refute it at one input. -/
def cellHoldsWrong : ChangeSpec := { name := "cellHolds", fn := fun _ => fun
  | [d] => { results := [.lit (.bool false)], args := [d] }
  | _ => none }
def CellHoldsWrongFalsely : Prop := cellHoldsRow.holds Try.pinned (OpenSpec.ofChange cellHoldsWrong)

/-- 'gleaningslaw10.CellOrder': WHATEVER THE INPUT: true; the input reads as it did. -/
def cellOrderSpec : ChangeSpec := { name := "cellOrder", fn := fun _ => fun
  | [d1, d2] => { results := [.lit (.bool true)], args := [d1, d2] }
  | _ => none }
def cellOrderRow : OpenClaim := { program := "ytkdbbdlkfpjdfaa", sum := "ec145c21e049dc66cb6e081dd1ab424e41aeb3df0004f1075add0956af0ec00c", func := "gleanings/gleaningslaw10.CellOrder", spec := "cellOrder", apart := false }
def CellOrderSaid : Prop := cellOrderRow.holds Try.pinned (OpenSpec.ofChange cellOrderSpec)

/-- ITS FALSE NEIGHBOUR: 'it returns false'. Refute it at one input. -/
def cellOrderWrong : ChangeSpec := { name := "cellOrder", fn := fun _ => fun
  | [d1, d2] => { results := [.lit (.bool false)], args := [d1, d2] }
  | _ => none }
def CellOrderWrongFalsely : Prop := cellOrderRow.holds Try.pinned (OpenSpec.ofChange cellOrderWrong)

/-- 'gleaningslaw10.CellReads': WHATEVER THE INPUT: true; the input reads as it did. -/
def cellReadsSpec : ChangeSpec := { name := "cellReads", fn := fun _ => fun
  | [d1, d2] => { results := [.lit (.bool true)], args := [d1, d2] }
  | _ => none }
def cellReadsRow : OpenClaim := { program := "ytkdbbdlkfpjdfaa", sum := "ec145c21e049dc66cb6e081dd1ab424e41aeb3df0004f1075add0956af0ec00c", func := "gleanings/gleaningslaw10.CellReads", spec := "cellReads", apart := false }
def CellReadsSaid : Prop := cellReadsRow.holds Try.pinned (OpenSpec.ofChange cellReadsSpec)

/-- ITS FALSE NEIGHBOUR: 'it returns false'. Refute it at one input. -/
def cellReadsWrong : ChangeSpec := { name := "cellReads", fn := fun _ => fun
  | [d1, d2] => { results := [.lit (.bool false)], args := [d1, d2] }
  | _ => none }
def CellReadsWrongFalsely : Prop := cellReadsRow.holds Try.pinned (OpenSpec.ofChange cellReadsWrong)

/-- 'gleaningslaw11.IbltPlaces': WHATEVER THE INPUT: true; the input reads as it did. -/
def ibltPlacesSpec : ChangeSpec := { name := "ibltPlaces", fn := fun _ => fun
  | [d1, d2] => { results := [.lit (.bool true)], args := [d1, d2] }
  | _ => none }
def ibltPlacesRow : OpenClaim := { program := "ytkdbbdlkfpjdfaa", sum := "ec145c21e049dc66cb6e081dd1ab424e41aeb3df0004f1075add0956af0ec00c", func := "gleanings/gleaningslaw11.IbltPlaces", spec := "ibltPlaces", unfollowed := true, recurses := true, apart := false }
def IbltPlacesSaid : Prop := ibltPlacesRow.holds Try.pinned (OpenSpec.ofChange ibltPlacesSpec)

/-- ITS FALSE NEIGHBOUR: 'it returns false'. Refute it at one input. -/
def ibltPlacesWrong : ChangeSpec := { name := "ibltPlaces", fn := fun _ => fun
  | [d1, d2] => { results := [.lit (.bool false)], args := [d1, d2] }
  | _ => none }
def IbltPlacesWrongFalsely : Prop := ibltPlacesRow.holds Try.pinned (OpenSpec.ofChange ibltPlacesWrong)

/-- 'gleaningslaw11.IbltHolds': WHATEVER THE INPUT: true; the input reads as it did. -/
def ibltHoldsSpec : ChangeSpec := { name := "ibltHolds", fn := fun _ => fun
  | [d1, d2, d3] => { results := [.lit (.bool true)], args := [d1, d2, d3] }
  | _ => none }
def ibltHoldsRow : OpenClaim := { program := "ytkdbbdlkfpjdfaa", sum := "ec145c21e049dc66cb6e081dd1ab424e41aeb3df0004f1075add0956af0ec00c", func := "gleanings/gleaningslaw11.IbltHolds", spec := "ibltHolds", unfollowed := true, recurses := true, apart := false }
def IbltHoldsSaid : Prop := ibltHoldsRow.holds Try.pinned (OpenSpec.ofChange ibltHoldsSpec)

/-- ITS FALSE NEIGHBOUR: 'it returns false'. Refute it at one input. -/
def ibltHoldsWrong : ChangeSpec := { name := "ibltHolds", fn := fun _ => fun
  | [d1, d2, d3] => { results := [.lit (.bool false)], args := [d1, d2, d3] }
  | _ => none }
def IbltHoldsWrongFalsely : Prop := ibltHoldsRow.holds Try.pinned (OpenSpec.ofChange ibltHoldsWrong)

/-- 'gleaningslaw11.IbltBack': WHATEVER THE INPUT: true; the input reads as it did. -/
def ibltBackSpec : ChangeSpec := { name := "ibltBack", fn := fun _ => fun
  | [d1, d2] => { results := [.lit (.bool true)], args := [d1, d2] }
  | _ => none }
def ibltBackRow : OpenClaim := { program := "ytkdbbdlkfpjdfaa", sum := "ec145c21e049dc66cb6e081dd1ab424e41aeb3df0004f1075add0956af0ec00c", func := "gleanings/gleaningslaw11.IbltBack", spec := "ibltBack", unfollowed := true, recurses := true, apart := false }
def IbltBackSaid : Prop := ibltBackRow.holds Try.pinned (OpenSpec.ofChange ibltBackSpec)

/-- ITS FALSE NEIGHBOUR: 'it returns false'. Refute it at one input. -/
def ibltBackWrong : ChangeSpec := { name := "ibltBack", fn := fun _ => fun
  | [d1, d2] => { results := [.lit (.bool false)], args := [d1, d2] }
  | _ => none }
def IbltBackWrongFalsely : Prop := ibltBackRow.holds Try.pinned (OpenSpec.ofChange ibltBackWrong)

/-- 'gleaningslaw11.IbltPlays': WHATEVER THE INPUT: true; the input reads as it did. -/
def ibltPlaysSpec : ChangeSpec := { name := "ibltPlays", fn := fun _ => fun
  | [d1, d2, d3] => { results := [.lit (.bool true)], args := [d1, d2, d3] }
  | _ => none }
def ibltPlaysRow : OpenClaim := { program := "ytkdbbdlkfpjdfaa", sum := "ec145c21e049dc66cb6e081dd1ab424e41aeb3df0004f1075add0956af0ec00c", func := "gleanings/gleaningslaw11.IbltPlays", spec := "ibltPlays", unfollowed := true, recurses := true, apart := false }
def IbltPlaysSaid : Prop := ibltPlaysRow.holds Try.pinned (OpenSpec.ofChange ibltPlaysSpec)

/-- ITS FALSE NEIGHBOUR: 'it returns false'. Refute it at one input. -/
def ibltPlaysWrong : ChangeSpec := { name := "ibltPlays", fn := fun _ => fun
  | [d1, d2, d3] => { results := [.lit (.bool false)], args := [d1, d2, d3] }
  | _ => none }
def IbltPlaysWrongFalsely : Prop := ibltPlaysRow.holds Try.pinned (OpenSpec.ofChange ibltPlaysWrong)

/-- 'gleaningslaw14.SizesHold': WHATEVER THE INPUT: true; the input reads as it did. -/
def sizesHoldSpec : ChangeSpec := { name := "sizesHold", fn := fun _ => fun
  | [d1, d2] => { results := [.lit (.bool true)], args := [d1, d2] }
  | _ => none }
def sizesHoldRow : OpenClaim := { program := "ytkdbbdlkfpjdfaa", sum := "ec145c21e049dc66cb6e081dd1ab424e41aeb3df0004f1075add0956af0ec00c", func := "gleanings/gleaningslaw14.SizesHold", spec := "sizesHold", unfollowed := true, recurses := true, apart := false }
def SizesHoldSaid : Prop := sizesHoldRow.holds Try.pinned (OpenSpec.ofChange sizesHoldSpec)

/-- ITS FALSE NEIGHBOUR: 'it returns false'. Refute it at one input. -/
def sizesHoldWrong : ChangeSpec := { name := "sizesHold", fn := fun _ => fun
  | [d1, d2] => { results := [.lit (.bool false)], args := [d1, d2] }
  | _ => none }
def SizesHoldWrongFalsely : Prop := sizesHoldRow.holds Try.pinned (OpenSpec.ofChange sizesHoldWrong)

/- THE SECOND FORM. 'bulk': how many values and letters a reading holds, each counted each time it is reached (what is shared counts as often as it is met; a slice's spare places count too). A statement '..UptoSaid' is the law's where the arguments, and the package variables that the reading takes, are together of bulk at most 1048576: NARROWER than '..Said'. Prove '..Said' where nothing that the law and all that it calls make is longer than what came in: it says more and counts as full. Else prove '..UptoSaid'. A law counts once. -/
mutual
def uptoBulk {H : Type} : DataW H → Nat
  | .lit (.string bytes) => bytes.length + 1
  | .lit _ => 1
  | .nil => 1
  | .ptr d => uptoBulk d + 1
  | .slice elems spare => uptoBulkAll elems + uptoBulkAll spare + 1
  | .agg parts => uptoBulkAll parts + 1
  | .iface _ d => uptoBulk d + 1
  | .map entries => uptoBulkEntries entries + 1
  | .held _ => 1
def uptoBulkAll {H : Type} : List (DataW H) → Nat
  | [] => 0
  | d :: r => uptoBulk d + uptoBulkAll r
def uptoBulkEntries {H : Type} : List (Lit × DataW H) → Nat
  | [] => 0
  | x :: r => uptoBulkEntry x + uptoBulkEntries r
def uptoBulkEntry {H : Type} : Lit × DataW H → Nat
  | (.string bytes, d) => bytes.length + uptoBulk d + 1
  | (_, d) => uptoBulk d + 1
 end
def uptoSmall : (H : Type) → List (DataW H) → Bool := fun _ ds => decide (uptoBulkAll ds ≤ 1048576)
def OpenSpec.upto (s : _root_.Go.ChangeSpec) : _root_.Go.OpenSpec := { _root_.Go.OpenSpec.ofChange s with cond := some uptoSmall }

/-- 'gleaningslaw10.CellTells', WHERE WHAT IT READS IS OF BULK AT MOST 1048576: true; the input reads as it did. -/
def cellTellsUptoRow : OpenClaim := { program := "ytkdbbdlkfpjdfaa", sum := "ec145c21e049dc66cb6e081dd1ab424e41aeb3df0004f1075add0956af0ec00c", func := "gleanings/gleaningslaw10.CellTells", spec := "cellTells", apart := false, narrowed := true }
def CellTellsUptoSaid : Prop := cellTellsUptoRow.holds Try.pinned (OpenSpec.upto cellTellsSpec)

/-- 'gleaningslaw10.CellHolds', WHERE WHAT IT READS IS OF BULK AT MOST 1048576: true; the input reads as it did. -/
def cellHoldsUptoRow : OpenClaim := { program := "ytkdbbdlkfpjdfaa", sum := "ec145c21e049dc66cb6e081dd1ab424e41aeb3df0004f1075add0956af0ec00c", func := "gleanings/gleaningslaw10.CellHolds", spec := "cellHolds", apart := false, narrowed := true }
def CellHoldsUptoSaid : Prop := cellHoldsUptoRow.holds Try.pinned (OpenSpec.upto cellHoldsSpec)

/-- 'gleaningslaw10.CellOrder', WHERE WHAT IT READS IS OF BULK AT MOST 1048576: true; the input reads as it did. -/
def cellOrderUptoRow : OpenClaim := { program := "ytkdbbdlkfpjdfaa", sum := "ec145c21e049dc66cb6e081dd1ab424e41aeb3df0004f1075add0956af0ec00c", func := "gleanings/gleaningslaw10.CellOrder", spec := "cellOrder", apart := false, narrowed := true }
def CellOrderUptoSaid : Prop := cellOrderUptoRow.holds Try.pinned (OpenSpec.upto cellOrderSpec)

/-- 'gleaningslaw10.CellReads', WHERE WHAT IT READS IS OF BULK AT MOST 1048576: true; the input reads as it did. -/
def cellReadsUptoRow : OpenClaim := { program := "ytkdbbdlkfpjdfaa", sum := "ec145c21e049dc66cb6e081dd1ab424e41aeb3df0004f1075add0956af0ec00c", func := "gleanings/gleaningslaw10.CellReads", spec := "cellReads", apart := false, narrowed := true }
def CellReadsUptoSaid : Prop := cellReadsUptoRow.holds Try.pinned (OpenSpec.upto cellReadsSpec)

/-- 'gleaningslaw11.IbltPlaces', WHERE WHAT IT READS IS OF BULK AT MOST 1048576: true; the input reads as it did. -/
def ibltPlacesUptoRow : OpenClaim := { program := "ytkdbbdlkfpjdfaa", sum := "ec145c21e049dc66cb6e081dd1ab424e41aeb3df0004f1075add0956af0ec00c", func := "gleanings/gleaningslaw11.IbltPlaces", spec := "ibltPlaces", unfollowed := true, recurses := true, apart := false, narrowed := true }
def IbltPlacesUptoSaid : Prop := ibltPlacesUptoRow.holds Try.pinned (OpenSpec.upto ibltPlacesSpec)

/-- 'gleaningslaw11.IbltHolds', WHERE WHAT IT READS IS OF BULK AT MOST 1048576: true; the input reads as it did. -/
def ibltHoldsUptoRow : OpenClaim := { program := "ytkdbbdlkfpjdfaa", sum := "ec145c21e049dc66cb6e081dd1ab424e41aeb3df0004f1075add0956af0ec00c", func := "gleanings/gleaningslaw11.IbltHolds", spec := "ibltHolds", unfollowed := true, recurses := true, apart := false, narrowed := true }
def IbltHoldsUptoSaid : Prop := ibltHoldsUptoRow.holds Try.pinned (OpenSpec.upto ibltHoldsSpec)

/-- 'gleaningslaw11.IbltBack', WHERE WHAT IT READS IS OF BULK AT MOST 1048576: true; the input reads as it did. -/
def ibltBackUptoRow : OpenClaim := { program := "ytkdbbdlkfpjdfaa", sum := "ec145c21e049dc66cb6e081dd1ab424e41aeb3df0004f1075add0956af0ec00c", func := "gleanings/gleaningslaw11.IbltBack", spec := "ibltBack", unfollowed := true, recurses := true, apart := false, narrowed := true }
def IbltBackUptoSaid : Prop := ibltBackUptoRow.holds Try.pinned (OpenSpec.upto ibltBackSpec)

/-- 'gleaningslaw11.IbltPlays', WHERE WHAT IT READS IS OF BULK AT MOST 1048576: true; the input reads as it did. -/
def ibltPlaysUptoRow : OpenClaim := { program := "ytkdbbdlkfpjdfaa", sum := "ec145c21e049dc66cb6e081dd1ab424e41aeb3df0004f1075add0956af0ec00c", func := "gleanings/gleaningslaw11.IbltPlays", spec := "ibltPlays", unfollowed := true, recurses := true, apart := false, narrowed := true }
def IbltPlaysUptoSaid : Prop := ibltPlaysUptoRow.holds Try.pinned (OpenSpec.upto ibltPlaysSpec)

/-- 'gleaningslaw14.SizesHold', WHERE WHAT IT READS IS OF BULK AT MOST 1048576: true; the input reads as it did. -/
def sizesHoldUptoRow : OpenClaim := { program := "ytkdbbdlkfpjdfaa", sum := "ec145c21e049dc66cb6e081dd1ab424e41aeb3df0004f1075add0956af0ec00c", func := "gleanings/gleaningslaw14.SizesHold", spec := "sizesHold", unfollowed := true, recurses := true, apart := false, narrowed := true }
def SizesHoldUptoSaid : Prop := sizesHoldUptoRow.holds Try.pinned (OpenSpec.upto sizesHoldSpec)

end Rows
end Go.Proofs.Ytkdbbdlkfpjdfaa
