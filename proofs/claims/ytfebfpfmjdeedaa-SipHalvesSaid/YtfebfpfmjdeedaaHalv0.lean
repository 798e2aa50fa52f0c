/- The plain law of SipHalves: a word that is put together from the bytes of a sum is that sum.
   Conditions: those that the theorem names. -/
import Derived.Test.YtfebfpfmjdeedaaI
namespace Go.Proofs.Ytfebfpfmjdeedaa
set_option linter.unusedVariables false
open Go.RowKit Go.Rg
/-- The first k bytes of a number. -/
def part (h : UInt64) (k : Nat) : UInt64 := UInt64.ofNat (h.toNat / 2 ^ (64 - 8 * k))
theorem part_zero (h : UInt64) : part h 0 = 0 := by
  have := h.toNat_lt
  unfold part
  rw [Nat.div_eq_of_lt (by omega)]; rfl
theorem part_eight (h : UInt64) : part h 8 = h := by
  unfold part
  simp
theorem part_lt (h : UInt64) (k : Nat) (hk : k < 8) : (part h k).toNat < 2 ^ 56 := by
  have := h.toNat_lt
  unfold part
  rw [UInt64.toNat_ofNat']
  refine Nat.lt_of_le_of_lt (Nat.mod_le _ _) ?_
  rw [Nat.div_lt_iff_lt_mul (Nat.two_pow_pos _), ← Nat.pow_add]
  exact Nat.lt_of_lt_of_le this (Nat.pow_le_pow_right (by omega) (by omega))
theorem part_step (h : UInt64) (k : Nat) (hk : k < 8) : part h k <<< 8 ||| (mb h k).toUInt64 = part h (k + 1) := by
  have h0 := h.toNat_lt
  apply UInt64.toNat_inj.1
  have h1 := part_lt h k hk
  rw [UInt64.toNat_or, UInt64.toNat_shiftLeft]
  have e8 : (8 : UInt64).toNat % 64 = 8 := rfl
  rw [e8, Nat.shiftLeft_eq, Nat.mod_eq_of_lt (by omega)]
  have hb : (mb h k).toUInt64.toNat = h.toNat / 2 ^ (8 * (7 - k)) % 256 := by
    unfold mb
    rw [UInt8.toNat_toUInt64, UInt64.toNat_toUInt8, UInt64.toNat_shiftRight]
    have : (8 * (7 - k)).toUInt64.toNat % 64 = 8 * (7 - k) := by
      show (UInt64.ofNat _).toNat % 64 = _
      rw [UInt64.toNat_ofNat']; omega
    rw [this, Nat.shiftRight_eq_div_pow]
  rw [hb]
  have hp : (part h k).toNat = h.toNat / 2 ^ (64 - 8 * k) := by
    unfold part
    rw [UInt64.toNat_ofNat', Nat.mod_eq_of_lt]
    exact Nat.lt_of_le_of_lt (Nat.div_le_self _ _) h0
  have hp1 : (part h (k + 1)).toNat = h.toNat / 2 ^ (8 * (7 - k)) := by
    unfold part
    rw [UInt64.toNat_ofNat', Nat.mod_eq_of_lt, show 64 - 8 * (k + 1) = 8 * (7 - k) by omega]
    exact Nat.lt_of_le_of_lt (Nat.div_le_self _ _) h0
  rw [hp, hp1, show 64 - 8 * k = 8 * (7 - k) + 8 by omega, Nat.pow_add, ← Nat.div_div_eq_div_mul]
  generalize h.toNat / 2 ^ (8 * (7 - k)) = x
  rw [show (2 : Nat) ^ 8 = 256 from rfl, Nat.or_comm]
  have := or_add (x / 256) (x % 256) 8 (Nat.mod_lt _ (by omega))
  rw [show (2 : Nat) ^ 8 = 256 from rfl] at this
  rw [Nat.mul_comm, this]
  omega
end Go.Proofs.Ytfebfpfmjdeedaa
