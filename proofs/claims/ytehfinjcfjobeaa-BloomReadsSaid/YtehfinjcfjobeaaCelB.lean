/- Cells: differences, sums, purity.
   Conditions: those that each theorem names. -/
import Derived.Test.YtehfinjcfjobeaaCelA
namespace Go.Proofs.Ytehfinjcfjobeaa
set_option maxRecDepth 100000
set_option linter.unusedVariables false
set_option linter.unusedSimpArgs false
open Go.RowKit Go.Rg
attribute [local go_sem] Rg.q_add Rg.q_add' Rg.q_xor Rg.q_or Rg.q_and markV cellV
/-- A slice of cells that can be read. -/
def CellsAt (w : World) (v : Value) (cs : List Ce) : Prop :=
  ∃ p cap, v = .slice p cs.length cap ∧ cs.length ≤ cap ∧ ∀ i c, cs[i]? = some c → ∃ g o, p = some ⟨g, o, none⟩ ∧ g < w.heap.size ∧ w.rangeAt g (o + i * 18) c.vals
theorem rangeAt_below {n g o : Nat} {cs : List Value} {X Y : World} (h : X.rangeAt g o cs) (hB : Below n X Y) (hg : g < n) : Y.rangeAt g o cs := fun j v hv => (hB.cell (p := ⟨g, o + j, none⟩) hg).trans (h j v hv)
theorem CellsAt.below {w w' : World} {v : Value} {l : List Ce} (h : CellsAt w v l) (hB : Below w.heap.size w w') : CellsAt w' v l := by
  obtain ⟨p, cap, rfl, hc, hf⟩ := h
  refine ⟨p, cap, rfl, hc, fun i c hi => ?_⟩
  obtain ⟨g, o, e, hg, hr⟩ := hf i c hi
  exact ⟨g, o, e, Nat.lt_of_lt_of_le hg hB.size, rangeAt_below hr hB hg⟩
def sumC (cs : List Ce) : Ce := cs.foldl Ce.add Ce.zero
theorem sumC_snoc (cs : List Ce) (c : Ce) : sumC (cs ++ [c]) = (sumC cs).add c := by simp [sumC]
theorem sumC_ok : ∀ cs : List Ce, (∀ c ∈ cs, c.ok) → (sumC cs).ok := by
  have : ∀ (cs : List Ce) (a : Ce), a.ok → (∀ c ∈ cs, c.ok) → (cs.foldl Ce.add a).ok := by
    intro cs
    induction cs with
    | nil => intro a ha _; exact ha
    | cons c t ih => intro a ha h; exact ih _ (Ce.add_ok ha (h c (by simp))) (fun x hx => h x (by simp [hx]))
  intro cs h
  exact this cs _ Ce.zero_ok h
def Ce.pure (c : Ce) : Int := if (c.n = 1 ∨ c.n = -1) ∧ c.h = check c.m then c.n else 0
theorem U_inj {a b : UInt64} : (U a == U b) = (a == b) := by
  have h : (U a = U b) = (a = b) := propext ⟨fun h => UInt64.toNat_inj.1 (by unfold U at h; omega), fun h => by rw [h]⟩
  rw [Bool.eq_iff_iff, beq_iff_eq, beq_iff_eq, h]
end Go.Proofs.Ytehfinjcfjobeaa
