/- Contracts of package pen: copies, sizes, the numbers of signed ones.
   Conditions: those that each theorem names. -/
import Derived.Test.YtehfinjcfjobeaaBytes
namespace Go.Proofs.Ytehfinjcfjobeaa
set_option maxRecDepth 100000
set_option linter.unusedVariables false
set_option linter.unusedSimpArgs false
set_option linter.unusedVariables false
set_option linter.unusedSimpArgs false
open Go.RowKit Go.Rg
attribute [local go_sem] Rg.q_add Rg.q_add' Rg.q_xor Rg.q_or Rg.q_and ba_app
/-- The digits of a number, in a system of 256, the greatest first. -/
def beB : Nat → List UInt8
  | 0 => []
  | n + 1 => beB ((n + 1) / 256) ++ [UInt8.ofNat ((n + 1) % 256)]
decreasing_by exact Nat.div_lt_self (by omega) (by omega)
def digits (n : Nat) : Nat := (beB n).length
def sizeN (n : Nat) : Nat := if n ≤ 247 then 1 else 1 + digits n
def zigN (n : Int) : UInt64 := UInt64.ofNat (if n < 0 then 2 * (-(n + 1)).toNat + 1 else 2 * n.toNat)
def zagN (u : UInt64) : Int := if u.toNat % 2 = 1 then -((u.toNat / 2 : Nat) : Int) - 1 else ((u.toNat / 2 : Nat) : Int)
theorem beB_zero : beB 0 = [] := by rw [beB]
theorem beB_pos (n : Nat) (h : n ≠ 0) : beB n = beB (n / 256) ++ [UInt8.ofNat (n % 256)] := by
  cases n with
  | zero => exact absurd rfl h
  | succ n => rw [beB]
theorem digits_zero : digits 0 = 0 := by unfold digits; rw [beB_zero]; rfl
theorem digits_pos (n : Nat) (h : n ≠ 0) : digits n = digits (n / 256) + 1 := by unfold digits; rw [beB_pos n h]; simp
theorem digits_lt (k n : Nat) (h : n < 256 ^ k) : digits n ≤ k := by
  induction k generalizing n with
  | zero => simp at h; subst h; rw [digits_zero]; omega
  | succ k ih =>
    by_cases h0 : n = 0
    · subst h0; rw [digits_zero]; omega
    · rw [digits_pos n h0]
      have := ih (n / 256) (by rw [Nat.pow_succ] at h; omega)
      omega
set_option maxRecDepth 100000 in
set_option maxHeartbeats 2000000 in
/-- A copy: owned, in a block of its own. -/
theorem bytes_clone (v : Value) (l : List UInt8) (w : World) (h : BytesAt w v l) (hn : l.length ≤ 1000000000000) :
    Calls Try.prog 29 #[v] w fun e w' => ∃ v', e = .returned v' ∧ OwnB w' v' l ∧ (∀ k, v'.ownBlock = some k → w.heap.size ≤ k) ∧ Below w.heap.size w w' := by
  obtain ⟨p, cap, rfl, hf⟩ := id h
  obtain ⟨i0, hi0, hz0, hz1, hz2⟩ := info_parts infoC
  have q29 : ∀ (w : World) (a : Option Addr) (n c n' c' : Nat), (binOp .eql 25 (.slice a n c) (.slice none n' c')).run Try.prog w = .ok (.bool a.isNone) w := fun w a n c n' c' => Lib.run_eql_slice_nil w _ _ a n c n' c' Try.underlying25
  go_enter Try.func29, Try.ntmps29
  cases p with
  | none =>
    have h0 : l = [] := by
      cases l with
      | nil => rfl
      | cons c l => obtain ⟨g, o, e, _⟩ := hf 0 (by simp); cases e
    subst h0
    go_wp2_with fail
    go_ret
    refine ⟨.slice none 0 0, rfl, OwnB.nil _, ?_, Below.refl _ _⟩
    intro k hk
    simp [Value.ownBlock] at hk
  | some ad =>
    have hr : (w.alloc (.cells #[] 5)).ownsRow w.heap.size 5 1 (.slice (some ⟨w.heap.size, 0, none⟩) 0 0) 0 [] := World.ownsRow_made w #[] 0 (Nat.le_refl _) (Nat.zero_le _) rfl
    have hB := (Below.refl w.heap.size w).alloc (Nat.le_refl _) (.cells #[] 5)
    have HC := Lib.hid (h.below hB).cells
    have hm : 0 + l.length ≤ maxLen := by unfold maxLen; omega
    have hm2 : (0 + l.length) * 1 ≤ 140737488355328 := by omega
    clear hf
    go_wp2_with (at_builtin; refine wpList_append_own_at _ rfl _ _ 25 rfl w.heap.size 5 i0 (.int .u8 0) 1 1 Try.underlying25 hi0 hz0 hz1 hz2 rfl (by decide) _ 0 [] rfl hr ad l.length cap (l.map byteV) rfl (by simp) HC.out (bytes_oneCell l) hm hm2 hB.size ?_)
    intro v' w' ho hg hni hat
    have hB2 : Below w.heap.size w w' := hB.grown hg hB.size (fun k hk => by cases hk; exact Nat.le_refl _)
    go_wp2_with fail
    go_ret
    refine ⟨v', rfl, ?_, ?_, hB2⟩
    · have := row_base (base' := 0) ho (Nat.zero_le _)
      simpa [OwnB] using this
    · intro k hk
      exact (World.ownsRow.lt ho k hk).1
theorem q_not (x : UInt64) : bits .xor .u64 IntKind.u64.max (U x) = 18446744073709551615 - U x := by
  rw [show IntKind.u64.max = U 18446744073709551615 from rfl, q_xor]
  have h : 18446744073709551615 ^^^ x = 18446744073709551615 - x := by
    apply UInt64.toBitVec_inj.1
    show BitVec.allOnes 64 ^^^ x.toBitVec = BitVec.allOnes 64 - x.toBitVec
    rw [BitVec.allOnes_sub_eq_not, BitVec.allOnes_xor]
  rw [h]
  have := x.toNat_lt
  unfold U
  rw [UInt64.toNat_sub_of_le _ _ (by rw [UInt64.le_iff_toNat_le]; show x.toNat ≤ 18446744073709551615; omega)]
  show ((18446744073709551615 - x.toNat : Nat) : Int) = _
  omega
theorem U_nat (n : Nat) (h : n < 18446744073709551616) : U (UInt64.ofNat n) = (n : Int) := by unfold U; rw [UInt64.toNat_ofNat', Nat.mod_eq_of_lt h]
theorem size_any (u : UInt64) (w : World) : Calls Try.prog 56 #[.int .u64 (U u)] w fun e w' => e = .returned (.int .i64 (sizeN u.toNat : Nat)) ∧ w = w' := by
  go_enter Try.func56, Try.ntmps56
  by_cases h : u.toNat ≤ 247
  · have e1 : decide (U u ≤ 247) = true := decide_eq_true (by unfold U; omega)
    go_wp2_with fail
    go_ret
    exact ⟨by unfold sizeN; rw [if_pos h]; rfl, rfl⟩
  · have e1 : decide (U u ≤ 247) = false := decide_eq_false (by unfold U; omega)
    have hlt := u.toNat_lt
    go_wp2_with fail
    go_loopw [0, 3] (fun v n wr => wr = w ∧ ∃ (x : UInt64) (k : Nat), v = .int .u64 (U x) ∧ n = .int .i64 k ∧ k + digits x.toNat = sizeN u.toNat) (fun v _ _ => (intOf v).toNat)
    case atStart => exact ⟨rfl, u, 1, rfl, rfl, by unfold sizeN; rw [if_neg h]⟩
    case round =>
      obtain ⟨rfl, x, k, rfl, rfl, hk⟩ := hrel
      have hk8 : sizeN u.toNat ≤ 9 := by
        unfold sizeN; rw [if_neg h]; have := digits_lt 8 u.toNat (by omega); omega
      have hx := x.toNat_lt
      by_cases h0 : x.toNat = 0
      · have e2 : decide (0 < U x) = false := decide_eq_false (by unfold U; omega)
        go_wp2_with fail
        go_ret
        rw [h0, digits_zero] at hk
        exact ⟨by rw [← hk]; rfl, rfl⟩
      · have e2 : decide (0 < U x) = true := decide_eq_true (by unfold U; omega)
        have hd := digits_pos x.toNat h0
        have e3 : U x / 256 = U (x / 256) := by unfold U; rw [UInt64.toNat_div]; rfl
        go_wp2_with fail
        refine ⟨⟨trivial, x / 256, k + 1, rfl, by go_num, ?_⟩, ?_⟩
        · rw [UInt64.toNat_div, show (256 : UInt64).toNat = 256 from rfl]; omega
        · simp only [intOf]; unfold U; rw [UInt64.toNat_div, show (256 : UInt64).toNat = 256 from rfl]; omega
end Go.Proofs.Ytehfinjcfjobeaa
