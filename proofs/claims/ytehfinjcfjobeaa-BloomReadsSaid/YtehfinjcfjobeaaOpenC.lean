/- Openers of rows: marks, cells, slices of them.
   Conditions: those that each theorem names. -/
import Derived.Test.YtehfinjcfjobeaaBs
import Derived.Test.YtehfinjcfjobeaaCelB
import Derived.OpenShut
import Derived.Deep.Strs
namespace Go.Proofs.Ytehfinjcfjobeaa
set_option maxRecDepth 100000
set_option linter.unusedVariables false
set_option linter.unusedSimpArgs false
open Go.RowKit Go.Rg Go.ChangeShapes Go.Joins Go.Deep
variable {H : Type} {enc : TypeId × Value → H} {w : World} {base : Nat} {spare : Nat → Bool} {held : Bool}
def unbyte : Value → UInt8
  | .int _ n => UInt8.ofNat n.toNat
  | _ => 0
theorem open_mark {n : Nat} {cs : List Value} {x : DataW H × List MemPlace} (h : DataW.trod enc Try.prog w base spare held n 24 cs = some x) : ∃ m : List UInt8, m.length = 16 ∧ cs = m.map byteV := by
  obtain ⟨xs, k, _, _, hl, hx, hi⟩ := DataW.trod_array (P := Try.prog) Try.underlying24 h
  have c0 : Try.prog.cellsOf 24 = 16 := by kernel_rfl
  have c1 : Try.prog.cellsOf 5 = 1 := by kernel_rfl
  rw [c0] at hl
  refine ⟨cs.map unbyte, by rw [List.length_map, hl], ?_⟩
  apply List.ext_getElem
  · simp
  · intro i h1 h2
    have h16 : i < 16 := by omega
    have hq := hi i h16
    rw [c1, List.getElem?_eq_getElem (by omega)] at hq
    obtain ⟨z, e, _, hw⟩ := DataW.trod_int (P := Try.prog) Try.underlying5 hq
    have e0 : cs[i] = .int .u8 z := by
      have := congrArg (fun l => l[0]?) e
      simp only [Nat.mul_one, List.getElem?_take, List.getElem?_drop, Nat.add_zero] at this
      rw [if_pos (by omega), List.getElem?_eq_getElem h1] at this
      simpa using this
    have hr : 0 ≤ z ∧ z ≤ 255 := by simpa [Lit.wf, IntKind.min, IntKind.max, IntKind.signed, IntKind.bits] using hw
    rw [List.getElem_map, List.getElem_map, e0]
    unfold unbyte byteV
    rw [UInt8.toNat_ofNat', Nat.mod_eq_of_lt (by omega)]
    congr 1
    omega
instance : Inhabited Ce := ⟨Ce.zero⟩
end Go.Proofs.Ytehfinjcfjobeaa
