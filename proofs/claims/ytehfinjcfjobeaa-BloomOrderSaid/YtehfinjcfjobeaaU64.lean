/- Arithmetic of 64 bits without a sign, said with Lean's UInt64.
   Conditions: those that each theorem names. -/
import Derived.WalkKit
import Derived.Laws.BitsLemmas
import Derived.StillTailTactics
namespace Go.Rg
set_option maxRecDepth 100000
set_option linter.unusedVariables false
set_option linter.unusedSimpArgs false
open Go Go.RowKit

theorem wrap_u64 (n : Int) : IntKind.u64.wrap n = n % 18446744073709551616 := by simp [IntKind.wrap, IntKind.bits, IntKind.signed]
theorem wraps_u64 (n : Int) (h₀ : 0 ≤ n) (h₁ : n < 2 ^ 64) : IntKind.u64.wrap n = n := by rw [wrap_u64]; omega
/-- The number of an unsigned word: closed to simp. -/
def U (u : UInt64) : Int := (u.toNat : Int)
theorem U_nonneg (u : UInt64) : 0 ≤ U u := Int.natCast_nonneg _
theorem U_lt (u : UInt64) : U u < 18446744073709551616 := by have := u.toNat_lt; unfold U; omega
theorem U_inj {a b : UInt64} (h : U a = U b) : a = b := UInt64.toNat_inj.1 (by unfold U at h; omega)
theorem U_eq (a b : UInt64) : (U a == U b) = decide (a = b) := by
  by_cases h : a = b
  · subst h; simp
  · rw [decide_eq_false h, beq_eq_false_iff_ne]; exact fun e => h (U_inj e)
theorem q_and (a b : UInt64) : bits .and .u64 (U a) (U b) = U (a &&& b) := by
  unfold U
  rw [UInt64.toNat_and]; exact (bits_nat .u64 64 (by decide) wraps_u64 a.toNat b.toNat a.toNat_lt b.toNat_lt).1
theorem q_or (a b : UInt64) : bits .or .u64 (U a) (U b) = U (a ||| b) := by
  unfold U
  rw [UInt64.toNat_or]; exact (bits_nat .u64 64 (by decide) wraps_u64 a.toNat b.toNat a.toNat_lt b.toNat_lt).2
theorem q_xor (a b : UInt64) : bits .xor .u64 (U a) (U b) = U (a ^^^ b) := by
  unfold U
  have ha : a.toNat % 2 ^ 64 = a.toNat := Nat.mod_eq_of_lt a.toNat_lt
  have hb : b.toNat % 2 ^ 64 = b.toNat := Nat.mod_eq_of_lt b.toNat_lt
  have hx : a.toNat ^^^ b.toNat < 2 ^ 64 := Nat.xor_lt_two_pow a.toNat_lt b.toNat_lt
  have e : IntKind.u64.bits = 64 := rfl
  rw [UInt64.toNat_xor]
  simp only [bits, e, BitVec.ofInt_natCast, BitVec.toNat_xor, BitVec.toNat_ofNat, ha, hb]
  exact wraps_u64 _ (Int.natCast_nonneg _) (by exact_mod_cast hx)
theorem q_add' (a b : UInt64) : (U a + U b) % 18446744073709551616 = U (a + b) := by
  unfold U
  rw [UInt64.toNat_add]; omega
theorem q_add (a b : UInt64) : IntKind.u64.wrap (U a + U b) = U (a + b) := by rw [wrap_u64, q_add']
theorem q_sub' (a b : UInt64) : (U a - U b) % 18446744073709551616 = U (a - b) := by
  unfold U
  have := a.toNat_lt
  have := b.toNat_lt
  rw [UInt64.toNat_sub]; omega
theorem q_mul' (a b : UInt64) : (U a * U b) % 18446744073709551616 = U (a * b) := by
  unfold U
  rw [UInt64.toNat_mul, ← Int.natCast_mul]; omega
theorem q_shl' (x : UInt64) (k : Nat) (hk : k < 64) : (U x * 2 ^ k) % 18446744073709551616 = U (x <<< k.toUInt64) := by
  unfold U
  rw [UInt64.toNat_shiftLeft, Nat.shiftLeft_eq]
  have : k.toUInt64.toNat % 64 = k := by simp; omega
  rw [this]
  have e : ((x.toNat : Int) * 2 ^ k) = ((x.toNat * 2 ^ k : Nat) : Int) := by simp
  rw [e]
  omega
theorem q_shl (x : UInt64) (k : Nat) (hk : k < 64) : IntKind.u64.wrap (U x * 2 ^ k) = U (x <<< k.toUInt64) := by rw [wrap_u64, q_shl' x k hk]
theorem q_shr (x : UInt64) (k : Nat) (hk : k < 64) : (U x / 2 ^ k) = U (x >>> k.toUInt64) := by
  unfold U
  rw [UInt64.toNat_shiftRight, Nat.shiftRight_eq_div_pow]
  have : k.toUInt64.toNat % 64 = k := by simp; omega
  rw [this, Int.natCast_ediv]
  simp

end Go.Rg
