/- Contracts of the words that the laws of package sip lean on.
   Conditions: those that each theorem names. -/
import Derived.Test.YtkdbbdlkfpjdfaaSipG
import Derived.Test.YtkdbbdlkfpjdfaaTail
namespace Go.Proofs.Ytkdbbdlkfpjdfaa
set_option maxRecDepth 100000
set_option linter.unusedVariables false
set_option linter.unusedSimpArgs false
set_option linter.unusedVariables false
open Go.RowKit Go.Rg
attribute [local go_sem] Rg.q_add Rg.q_add' Rg.q_xor Rg.q_or Rg.q_and ba_app
theorem plain_seed_any (n : Int) (w : World) : Calls Try.prog 63 #[.int .i64 n] w fun e w' => e = .returned (seedV n) ∧ Below w.heap.size w w' := by
  have E1 := U_sA n
  have E2 : IntKind.u64.wrap (18446744073709551615 - U (sA n)) = U (sB n) := by
    unfold sB
    have e : ∀ x : UInt64, (18446744073709551615 ^^^ x) = 18446744073709551615 - x := by
      intro x
      apply UInt64.toBitVec_inj.1
      show BitVec.allOnes 64 ^^^ x.toBitVec = BitVec.allOnes 64 - x.toBitVec
      rw [BitVec.allOnes_sub_eq_not, BitVec.allOnes_xor]
    rw [e, wrap_u64]
    exact q_sub' 18446744073709551615 (sA n)
  go_enter Try.func63, Try.ntmps63
  go_wp2_with fail
  exact bodyPost_ret (v := seedV n) (by simp [results, Try.results63, go_sem]) rfl ⟨rfl, (Below.refl _ _).alloc (Nat.le_refl _) _⟩

def tot (ls : List (List UInt8)) : Nat := ls.length + ls.flatten.length
theorem tot_take (ls : List (List UInt8)) (i : Nat) (h : i < ls.length) : tot (ls.take (i + 1)) = tot (ls.take i) + (1 + (ls[i]?.getD []).length) := by
  unfold tot
  rw [flat_take ls i h, List.length_append]
  simp; omega
theorem tot_le (ls : List (List UInt8)) (i : Nat) : tot (ls.take i) ≤ tot ls := by
  have h1 := flat_take_le ls i
  have h2 := List.length_take_le i ls
  have h3 : (ls.take i).length ≤ ls.length := by rw [List.length_take]; omega
  unfold tot
  omega

end Go.Proofs.Ytkdbbdlkfpjdfaa
