/- Contracts of the words that the laws of package sip lean on.
   Conditions: those that each theorem names. -/
import Derived.Test.YtfebfpfmjdeedaaG
import Derived.Test.YtfebfpfmjdeedaaTail
namespace Go.Proofs.Ytfebfpfmjdeedaa
set_option linter.unusedVariables false
open Go.RowKit Go.Rg
attribute [local go_sem] Rg.q_add Rg.q_add' Rg.q_xor Rg.q_or Rg.q_and ba_app
theorem plain_seed_any (n : Int) (w : World) : Calls Try.prog 15 #[.int .i64 n] w fun e w' => e = .returned (seedV n) ∧ Below w.heap.size w w' := by
  have E1 := U_sA n
  have E2 : IntKind.u64.wrap (18446744073709551615 - U (sA n)) = U (sB n) := by
    unfold sB
    have e : ∀ x : UInt64, (18446744073709551615 ^^^ x) = 18446744073709551615 - x := by
      intro x
      apply UInt64.toBitVec_inj.1
      show BitVec.allOnes 64 ^^^ x.toBitVec = BitVec.allOnes 64 - x.toBitVec
      rw [BitVec.allOnes_sub_eq_not, BitVec.allOnes_xor]
    rw [e, wrap_u64]
    exact q_sub' 18446744073709551615 (sA n)
  go_enter Try.func15, Try.ntmps15
  go_wp2_with fail
  exact bodyPost_ret (v := seedV n) (by simp [results, Try.results15, go_sem]) rfl ⟨rfl, (Below.refl _ _).alloc (Nat.le_refl _) _⟩

def tot (ls : List (List UInt8)) : Nat := ls.length + ls.flatten.length
theorem tot_take (ls : List (List UInt8)) (i : Nat) (h : i < ls.length) : tot (ls.take (i + 1)) = tot (ls.take i) + (1 + (ls[i]?.getD []).length) := by
  unfold tot
  rw [flat_take ls i h, List.length_append]
  simp; omega
theorem tot_le (ls : List (List UInt8)) (i : Nat) : tot (ls.take i) ≤ tot ls := by
  have h1 := flat_take_le ls i
  have h2 := List.length_take_le i ls
  have h3 : (ls.take i).length ≤ ls.length := by rw [List.length_take]; omega
  unfold tot
  omega

theorem great_any (v : Value) (ls : List (List UInt8)) (w : World) (hr : RowsAt w v ls) (hk : ls.length ≤ 1000000000000000) (hs : ∀ i : Nat, (ls[i]?.getD []).length ≤ 1000000000000000) :
    Calls Try.prog 8 #[v] w fun e w' => e = .returned (.bool (decide (3000 < tot ls))) ∧ w = w' := by
  obtain ⟨p, cap, rfl, hf⟩ := hr
  generalize hr : decide (3000 < tot ls) = r
  have HR := Lib.hid hr
  clear hr
  go_enter Try.func8, Try.ntmps8
  go_wp2_with fail
  go_loopw [3, 8] (fun n c wr => wr = w ∧ ∃ i : Nat, i ≤ ls.length ∧ c = .int .i64 i ∧ n = .int .i64 (tot (ls.take i)) ∧ tot (ls.take i) ≤ 3000) (fun _ c _ => ls.length - (intOf c).toNat)
  case atStart => exact ⟨rfl, 0, by omega, rfl, rfl, by simp [tot]⟩
  case round =>
    obtain ⟨rfl, i, hi, rfl, rfl, ht⟩ := hrel
    by_cases hil : i < ls.length
    · obtain ⟨g, o, u, rfl, hg, hc, q, uc, rfl, hb⟩ := hf i hil
      have e1 : decide (i < ls.length) = true := decide_eq_true hil
      have hs' := hs i
      have h1 := tot_take ls i hil
      have E1 : ((tot (ls.take i) : Nat) : Int) + (1 + ((ls[i]?.getD []).length : Int)) = ((tot (ls.take (i + 1)) : Nat) : Int) := by rw [h1]; omega
      have hle := tot_le ls (i + 1)
      have HH := Lib.hid h1
      have HB := Lib.hid hb
      clear h1 hf hb hs
      generalize ls[i]?.getD [] = b at *
      have H1 : tot (ls.take (i + 1)) = tot (ls.take i) + (1 + b.length) := HH.out
      obtain ⟨t', ht'⟩ : ∃ t', tot (ls.take (i + 1)) = t' := ⟨_, rfl⟩
      obtain ⟨t, ht0⟩ : ∃ t, tot (ls.take i) = t := ⟨_, rfl⟩
      have HT' := Lib.hid ht'
      rw [ht', ht0] at E1 H1
      rw [ht'] at hle
      rw [ht0] at ht ⊢
      have HLE := Lib.hid hle
      clear HH ht0 H1 hle
      by_cases hgt : 3000 < t'
      · have e2 : decide (3000 < t') = true := decide_eq_true hgt
        have e3 : r = true := by rw [← HR.out]; have := HLE.out; exact decide_eq_true (by omega)
        subst e3
        have e4 : decide ((3000 : Int) < ((t' : Nat) : Int)) = true := decide_eq_true (by omega)
        clear ht'
        go_wp2_with fail
        go_ret
        exact ⟨rfl, rfl⟩
      · have e2 : decide (3000 < t') = false := decide_eq_false hgt
        have e4 : decide ((3000 : Int) < ((t' : Nat) : Int)) = false := decide_eq_false (by omega)
        clear ht'
        go_wp2_with fail
        refine ⟨⟨trivial, i + 1, by omega, by go_num, by rw [HT'.out], by rw [HT'.out]; omega⟩, by simp [intOf]; omega⟩
    · have e1 : decide (i < ls.length) = false := decide_eq_false hil
      have e3 : r = false := by
        rw [← HR.out]
        rw [List.take_of_length_le (by omega)] at ht
        exact decide_eq_false (by omega)
      subst e3
      go_wp2_with fail
      go_ret
      exact ⟨rfl, rfl⟩

theorem joined_any (v : Value) (ls : List (List UInt8)) (w : World) (hr : RowsAt w v ls) (hk : tot ls ≤ 3000) :
    Calls Try.prog 9 #[v] w fun e w' => e = .returned (str ls.flatten) ∧ w = w' := by
  obtain ⟨p, cap, rfl, hf⟩ := hr
  have hkl : ls.length ≤ 3000 := by unfold tot at hk; omega
  go_enter Try.func9, Try.ntmps9
  go_wp2_with fail
  go_loopw [3, 8] (fun n c wr => wr = w ∧ ∃ i : Nat, i ≤ ls.length ∧ c = .int .i64 i ∧ n = .string ⟨((ls.take i).flatten).toArray⟩) (fun _ c _ => ls.length - (intOf c).toNat)
  case atStart => exact ⟨rfl, 0, by omega, rfl, rfl⟩
  case round =>
    obtain ⟨rfl, i, hi, rfl, rfl⟩ := hrel
    by_cases hil : i < ls.length
    · obtain ⟨g, o, u, rfl, hg, hc, hu⟩ := hf i hil
      have e1 : decide (i < ls.length) = true := decide_eq_true hil
      have hcv := conv_bytes hu
      have hle := flat_take_le ls (i + 1)
      have HT := Lib.hid (flat_take ls i hil)
      have hl2 : (ls.take i).flatten.length + (ls[i]?.getD []).length ≤ 3000 := by
        rw [HT.out, List.length_append] at hle
        unfold tot at hk; omega
      clear hf hu hle
      generalize ls[i]?.getD [] = b at *
      obtain ⟨a, ha⟩ : ∃ a, (ls.take i).flatten = a := ⟨_, rfl⟩
      rw [ha] at hl2 ⊢
      have HA := Lib.hid ha
      clear ha
      go_wp2_with fail
      refine ⟨⟨trivial, i + 1, by omega, by go_num, by rw [HT.out, HA.out]⟩, by simp [intOf]; omega⟩
    · have e1 : decide (i < ls.length) = false := decide_eq_false hil
      have ht : ls.take i = ls := List.take_of_length_le (by omega)
      rw [ht]
      clear ht hf
      go_wp2_with fail
      go_ret
      exact ⟨rfl, rfl⟩
end Go.Proofs.Ytfebfpfmjdeedaa
