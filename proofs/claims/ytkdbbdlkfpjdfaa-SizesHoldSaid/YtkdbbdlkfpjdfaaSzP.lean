/- Law SizesHold, in plain Lean.
   Conditions: those that each theorem names. -/
import Derived.Test.YtkdbbdlkfpjdfaaSzC
import Derived.Test.YtkdbbdlkfpjdfaaCelP
import Derived.Test.YtkdbbdlkfpjdfaaCelR
import Derived.Test.YtkdbbdlkfpjdfaaIbA
namespace Go.Proofs.Ytkdbbdlkfpjdfaa
set_option maxRecDepth 100000
set_option linter.unusedVariables false
set_option linter.unusedSimpArgs false
open Go.Rg
theorem fit_iff (n : Int) : fit n = true ↔ fitsC n := by unfold fit fitsC; exact decide_eq_true_iff
theorem fit_cells (g : Int) : fit (cellsV g) = true := by
  unfold fit cellsV
  rw [decide_eq_true_eq]
  omega
theorem fit_next (n : Int) (h : fit n = true) : fit (nextV n) = true ∧ n ≤ nextV n ∧ (nextV n < 1536 → nextV n = 2 * n) := by
  have e : nextV n = min 1536 (2 * n) := if_pos h
  have h' := of_decide_eq_true h
  rw [e]
  refine ⟨?_, by omega, by omega⟩
  unfold fit
  rw [decide_eq_true_eq]
  omega
theorem fit_size (g : Int) : ∀ i, fit (sizeAt g i) = true
  | 0 => fit_cells g
  | i + 1 => (fit_next _ (fit_size g i)).1
theorem size_mono (g : Int) (i : Nat) : sizeAt g i ≤ sizeAt g (i + 1) := (fit_next _ (fit_size g i)).2.1
theorem size_big (g : Int) : ∀ i, sizeAt g i < 1536 → 3 * max 0 (min g 4096) ≤ 2 * sizeAt g i
  | 0, h => by
    show _ ≤ 2 * cellsV g
    have h' : cellsV g < 1536 := h
    unfold cellsV at h' ⊢
    omega
  | i + 1, h => by
    have h1 := size_mono g i
    have h2 := size_big g i (by omega)
    omega
theorem cbytes_le (c : Ce) (hc : c.ok) (hr : c.right = true) : c.bytes.length ≤ 28 := by
  have hr' : -1048576 ≤ c.n ∧ c.n ≤ 1048576 := of_decide_eq_true hr
  have hz : (zigN c.n).toNat ≤ 2097152 := by
    have h : (if c.n < 0 then 2 * (-(c.n + 1)).toNat + 1 else 2 * c.n.toNat) ≤ 2097152 := by split <;> omega
    unfold zigN
    rw [UInt64.toNat_ofNat', Nat.mod_eq_of_lt (by omega)]
    exact h
  have h2 : (numN (zigN c.n).toNat).length ≤ 4 := by
    rw [numN_length]
    unfold sizeN
    split
    · omega
    · have := digits_lt 3 (zigN c.n).toNat (by omega)
      omega
  unfold Ce.bytes
  rw [List.length_append, List.length_append, hc.m, eightL_length]
  omega
def cellsB (cs : List Ce) (i : Nat) : List UInt8 := (((cs.take i).filter Ce.right).map Ce.bytes).flatten
theorem cellsB_succ (cs : List Ce) (i : Nat) (c : Ce) (h : cs[i]? = some c) : cellsB cs (i + 1) = cellsB cs i ++ if c.right = true then c.bytes else [] := by
  unfold cellsB
  rw [List.take_add_one, h, List.filter_append, List.map_append, List.flatten_append]
  cases hr : c.right <;> simp [hr]
theorem cellsB_le (cs : List Ce) (hk : ∀ c ∈ cs, c.ok) : ∀ i, i ≤ cs.length → (cellsB cs i).length ≤ 28 * i
  | 0, _ => by simp [cellsB]
  | i + 1, h => by
    obtain ⟨c, hc⟩ : ∃ c, cs[i]? = some c := ⟨_, List.getElem?_eq_getElem (by omega)⟩
    rw [cellsB_succ cs i c hc, List.length_append]
    have ih := cellsB_le cs hk i (by omega)
    cases hr : c.right
    · simp; omega
    · rw [if_pos rfl]
      have := cbytes_le c (hk c (List.mem_of_getElem? hc)) hr
      omega
end Go.Proofs.Ytkdbbdlkfpjdfaa
