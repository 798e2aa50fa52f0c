/- Cells: the algebra of sums.
   Conditions: those that the theorem names. -/
import Derived.Test.YtkdbbdlkfpjdfaaCelB
namespace Go.Proofs.Ytkdbbdlkfpjdfaa
set_option maxRecDepth 100000
set_option linter.unusedVariables false
set_option linter.unusedSimpArgs false
open Go.RowKit Go.Rg
attribute [local go_sem] Rg.q_add Rg.q_add' Rg.q_xor Rg.q_or Rg.q_and markV cellV max_two max2_int min_two min2_int
theorem xorZ (m : List UInt8) (h : m.length = 16) : xorL (List.replicate 16 0) m = m := by
  apply List.ext_getElem
  · simp [xorL, h]
  · intro i h1 h2
    simp only [xorL, List.getElem_zipWith, List.getElem_replicate, UInt8.zero_xor]
theorem xor_comm8 (a b : List UInt8) : xorL a b = xorL b a := by
  unfold xorL
  rw [List.zipWith_comm]
  congr 1
  funext x y
  exact UInt8.xor_comm _ _
theorem Ce.add_comm (a b : Ce) : a.add b = b.add a := by
  unfold Ce.add
  rw [Int.add_comm, xor_comm8, UInt64.xor_comm]
theorem xor_assoc8 : ∀ (a b c : List UInt8), xorL (xorL a b) c = xorL a (xorL b c)
  | [], b, c => by simp [xorL]
  | a :: a2, [], c => by simp [xorL]
  | a :: a2, b :: b2, [] => by simp [xorL]
  | a :: a2, b :: b2, c :: c2 => by
    have := xor_assoc8 a2 b2 c2
    simp only [xorL, List.zipWith_cons_cons] at this ⊢
    rw [this, UInt8.xor_assoc]
theorem Ce.add_assoc (a b c : Ce) : (a.add b).add c = a.add (b.add c) := by
  unfold Ce.add
  simp only [xor_assoc8, UInt64.xor_assoc]
  congr 1
  rw [IntKind.wrap_i64, IntKind.wrap_i64, IntKind.wrap_i64, IntKind.wrap_i64]; omega
theorem Ce.zero_add (a : Ce) (h : a.ok) : Ce.zero.add a = a := by
  obtain ⟨n, m, k⟩ := a
  unfold Ce.add Ce.zero
  dsimp only
  rw [xorZ m h.m, UInt64.zero_xor]
  have h1 := h.lo
  have h2 := h.hi
  dsimp only at h1 h2
  congr 1
  rw [IntKind.wrap_i64]; omega
theorem Ce.add_zero (a : Ce) (h : a.ok) : a.add Ce.zero = a := by rw [Ce.add_comm, Ce.zero_add a h]
theorem fold_add (l : List Ce) : ∀ (a : Ce), a.ok → (∀ c ∈ l, c.ok) → l.foldl Ce.add a = a.add (sumC l) := by
  induction l with
  | nil => intro a h _; exact (Ce.add_zero a h).symm
  | cons c t ih =>
    intro a h hl
    have hc := hl c (by simp)
    have ht : ∀ x ∈ t, x.ok := fun x hx => hl x (by simp [hx])
    rw [List.foldl_cons, ih _ (Ce.add_ok h hc) ht, Ce.add_assoc]
    unfold sumC
    rw [List.foldl_cons, Ce.zero_add c hc]
    congr 1
    rw [ih c hc ht]; rfl
theorem sumC_append (l m : List Ce) (h1 : ∀ c ∈ l, c.ok) (h2 : ∀ c ∈ m, c.ok) : sumC (l ++ m) = (sumC l).add (sumC m) := by
  unfold sumC
  rw [List.foldl_append]
  exact fold_add m _ (sumC_ok l h1) h2
theorem sumC_reverse (l : List Ce) (h : ∀ c ∈ l, c.ok) : sumC l.reverse = sumC l := by
  induction l with
  | nil => rfl
  | cons c t ih =>
    have hc := h c (by simp)
    have ht : ∀ x ∈ t, x.ok := fun x hx => h x (by simp [hx])
    rw [List.reverse_cons, sumC_snoc, ih ht, Ce.add_comm]
    show c.add (sumC t) = t.foldl Ce.add (Ce.zero.add c)
    rw [Ce.zero_add c hc, fold_add t c hc ht]
end Go.Proofs.Ytkdbbdlkfpjdfaa
