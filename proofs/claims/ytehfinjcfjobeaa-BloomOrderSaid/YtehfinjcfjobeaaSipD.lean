/- Contracts of package sip: seeds and marks.
   Conditions: those that each theorem names. -/
import Derived.Test.YtehfinjcfjobeaaSipC
namespace Go.Proofs.Ytehfinjcfjobeaa
set_option maxRecDepth 100000
set_option linter.unusedVariables false
set_option linter.unusedSimpArgs false
open Go.RowKit Go.Rg
attribute [local go_sem] Rg.q_add Rg.q_add' Rg.q_xor Rg.q_or Rg.q_and
/-! ### Seeds and marks -/
def sA (n : Int) : UInt64 := UInt64.ofNat (n % 18446744073709551616).toNat
def sB (n : Int) : UInt64 := 18446744073709551615 ^^^ sA n
theorem U_sA (n : Int) : IntKind.u64.wrap n = U (sA n) := by
  rw [wrap_u64]; unfold U sA
  rw [UInt64.toNat_ofNat']; omega
abbrev seedV (n : Int) : Value := keyV (sA n) (sB n)
theorem seed_any (n : Int) (w : World) : Calls Try.prog 35 #[.int .i64 n] w fun e w' => e = .returned (seedV n) ∧ Below w.heap.size w w' := by
  have E1 := U_sA n
  have E2 : bits .xor .u64 IntKind.u64.max (U (sA n)) = U (sB n) := by rw [show IntKind.u64.max = U 18446744073709551615 from rfl]; exact q_xor 18446744073709551615 (sA n)
  have E3 : IntKind.u64.signed = false := rfl
  go_enter Try.func35, Try.ntmps35
  go_wp2_with fail
  exact bodyPost_ret (v := seedV n) (by simp [results, Try.results35, go_sem]) rfl ⟨rfl, (Below.refl _ _).alloc (Nat.le_refl _) _⟩

def mb (h : UInt64) (k : Nat) : UInt8 := (h >>> (8 * (7 - k)).toUInt64).toUInt8
def markH (h1 h2 : UInt64) (j : Nat) : UInt8 := if j < 8 then mb h1 j else mb h2 (j - 8)
def markB (l : List UInt8) : List UInt8 := (List.range 16).map (markH (hashS (sA 1) (sB 1) l) (hashS (sA 2) (sB 2) l))
abbrev markV (m : List UInt8) : Value := .agg (m.map byteV).toArray
/-- The first m bytes are there. -/
def arr (h1 h2 : UInt64) (m : Nat) : List Value := (List.range 16).map fun j => if j < m then byteV (markH h1 h2 j) else .int .u8 0
theorem arr_set (h1 h2 : UInt64) (m : Nat) : (arr h1 h2 m).set m (byteV (markH h1 h2 m)) = arr h1 h2 (m + 1) := by
  apply List.ext_getElem
  · simp [arr]
  · intro j hj1 hj2
    simp only [arr, List.getElem_set, List.getElem_map, List.getElem_range]
    by_cases e : m = j
    · subst e; simp
    · rw [if_neg e]
      by_cases h : j < m
      · rw [if_pos h, if_pos (by omega)]
      · rw [if_neg h, if_neg (by omega)]

theorem fill {w : World} {b : Nat} {T : TypeId} {pre post : List Value} {x v : Value} (i : Nat) (hi : i = pre.length) (h : w.heap[b]? = some (.cells (pre ++ x :: post).toArray T (0, 0))) :
    (w.setCell ⟨b, i, none⟩ v).heap[b]? = some (.cells ((pre ++ [v]) ++ post).toArray T (0, 0)) := by
  subst hi
  refine (block_set _ h).trans ?_
  simp
end Go.Proofs.Ytehfinjcfjobeaa
