/- The plain law of PenOrder: numbers are read as they were written, and stand in their order.
   Conditions: those that each theorem names. -/
import Derived.Test.YtkdbbdlkfpjdfaaPenU
namespace Go.Proofs.Ytkdbbdlkfpjdfaa
set_option maxRecDepth 100000
set_option linter.unusedVariables false
set_option linter.unusedSimpArgs false
set_option linter.unusedVariables false
set_option linter.unusedSimpArgs false
open Go.RowKit Go.Rg
theorem digits_ge (n : Nat) (h : n ≠ 0) : 1 ≤ digits n := by have := digits_pos n h; omega
theorem valB_beB (n : Nat) : valB (beB n) = n := by
  induction n using Nat.strongRecOn with
  | _ n ih =>
    by_cases h : n = 0
    · subst h; rw [beB_zero]; rfl
    · rw [beB_pos n h, valB_snoc, ih (n / 256) (by omega), UInt8.toNat_ofNat']
      omega
theorem parse_num (u : Nat) (t : List UInt8) (h : u < 18446744073709551616) : parse (numN u ++ t) = (u, (numN u).length, 0) := by
  by_cases hs : u ≤ 247
  · have e : numN u = [UInt8.ofNat u] := by unfold numN; rw [if_pos hs]
    have hc : (UInt8.ofNat u).toNat = u := by rw [UInt8.toNat_ofNat']; omega
    rw [e, List.singleton_append, parse_cons, hc, if_pos hs]; rfl
  · have e : numN u = UInt8.ofNat (247 + digits u) :: beB u := by unfold numN; rw [if_neg hs]
    have hd8 : digits u ≤ 8 := digits_lt 8 u (by omega)
    have hd1 := digits_ge u (by omega)
    have hc : (UInt8.ofNat (247 + digits u)).toNat = 247 + digits u := by rw [UInt8.toNat_ofNat']; omega
    have hl : (beB u).length = digits u := rfl
    have ht : (beB u ++ t).take (247 + digits u - 247) = beB u := by rw [List.take_append_of_le_length (by omega), List.take_of_length_le (by omega)]
    have hz : sizeN u = 247 + digits u - 246 := by unfold sizeN; rw [if_neg hs]; omega
    rw [e, List.cons_append, parse_cons, hc, if_neg (by omega), if_neg (by rw [List.length_append]; omega), ht, valB_beB, if_neg (by rw [hz]; simp)]
    rw [List.length_cons, hl, show 247 + digits u - 246 = digits u + 1 by omega]
theorem number_num (u : Nat) (t : List UInt8) (most : UInt64) (h : u < 18446744073709551616) (hm : u ≤ most.toNat) : (Ey.mk (numN u ++ t) 0).number most = (u, ⟨t, 0⟩) := by
  unfold Ey.number
  rw [if_neg (by simp), parse_num u t h, if_neg (by simp), if_neg (by simp; omega)]
  simp
theorem text_text (b t : List UInt8) (h : b.length ≤ 1000) : (Ey.mk (numN b.length ++ b ++ t) 0).text (b.length : Int) = (b, ⟨t, 0⟩) := by
  unfold Ey.text
  rw [List.append_assoc, number_num b.length (b ++ t) 18446744073709551615 (by omega) (by show _ ≤ 18446744073709551615; omega)]
  dsimp only
  rw [if_neg (by simp), if_neg (by omega)]
  unfold Ey.fixed
  rw [if_neg (by simp), if_neg (by omega), if_neg (by simp; omega)]
  simp
theorem zag_zig (n : Int) (hn : -9223372036854775808 ≤ n ∧ n ≤ 9223372036854775807) : zagN (zigN n) = n := by
  unfold zagN zigN
  rw [UInt64.toNat_ofNat']
  split <;> split <;> omega
theorem zig_zag (u : UInt64) : zigN (zagN u) = u := by
  have h := u.toNat_lt
  apply UInt64.toNat_inj.1
  unfold zagN zigN
  rw [UInt64.toNat_ofNat']
  split <;> split <;> omega
theorem zag_range (u : UInt64) : -9223372036854775808 ≤ zagN u ∧ zagN u ≤ 9223372036854775807 := by
  have h := u.toNat_lt
  unfold zagN
  split <;> omega
/-! ### The order of the bytes -/
theorem less_self (l : List UInt8) : Op.bytesLess l l = false := by
  induction l with
  | nil => rfl
  | cons a l ih => simp [Op.bytesLess, ih]
theorem less_snoc : ∀ (x y : List UInt8) (a b : UInt8), x.length = y.length → Op.bytesLess (x ++ [a]) (y ++ [b]) = (Op.bytesLess x y || (x == y && decide (a < b)))
  | [], [], a, b, _ => by simp [Op.bytesLess]
  | [], y :: ys, a, b, h => by simp at h
  | x :: xs, [], a, b, h => by simp at h
  | x :: xs, y :: ys, a, b, h => by
    have ih := less_snoc xs ys a b (by simpa using h)
    simp only [List.cons_append, Op.bytesLess, ih]
    by_cases h1 : x < y
    · simp [h1]
    · by_cases h2 : x = y
      · subst h2; simp [h1]
      · have h3 : (x == y) = false := by simp [h2]
        simp [h1, h3]
theorem digits_lt' (n : Nat) : n < 256 ^ digits n := by
  have := valB_lt (beB n)
  rw [valB_beB] at this
  exact this
theorem beB_inj {a b : Nat} (h : beB a = beB b) : a = b := by
  have := congrArg valB h
  rwa [valB_beB, valB_beB] at this
theorem less_beB : ∀ (k a b : Nat), digits a = k → digits b = k → Op.bytesLess (beB a) (beB b) = decide (a < b) := by
  intro k
  induction k with
  | zero =>
    intro a b ha hb
    have h1 := digits_lt' a
    have h2 := digits_lt' b
    rw [ha] at h1; rw [hb] at h2
    obtain rfl : a = 0 := by omega
    obtain rfl : b = 0 := by omega
    rw [beB_zero]; rfl
  | succ k ih =>
    intro a b ha hb
    have h1 : a ≠ 0 := by rintro rfl; rw [digits_zero] at ha; omega
    have h2 : b ≠ 0 := by rintro rfl; rw [digits_zero] at hb; omega
    have h3 := digits_pos a h1
    have h4 := digits_pos b h2
    have ih' := ih (a / 256) (b / 256) (by omega) (by omega)
    rw [beB_pos a h1, beB_pos b h2, less_snoc _ _ _ _ (show digits (a / 256) = digits (b / 256) by omega), ih']
    have hlt : (UInt8.ofNat (a % 256) < UInt8.ofNat (b % 256)) ↔ a % 256 < b % 256 := by
      rw [UInt8.lt_iff_toNat_lt, UInt8.toNat_ofNat', UInt8.toNat_ofNat']; omega
    by_cases hq : a / 256 = b / 256
    · rw [hq]
      simp only [Nat.lt_irrefl, decide_false, beq_self_eq_true, Bool.true_and, Bool.false_or]
      exact decide_eq_decide.2 (hlt.trans (by omega))
    · have : (beB (a / 256) == beB (b / 256)) = false := by
        simp only [beq_eq_false_iff_ne]
        exact fun e => hq (beB_inj e)
      rw [this]
      simp only [Bool.false_and, Bool.or_false]
      exact decide_eq_decide.2 (by omega)
theorem digits_mono {a b : Nat} (h : a ≤ b) : digits a ≤ digits b := digits_lt _ _ (Nat.lt_of_le_of_lt h (digits_lt' b))
theorem less_num (a b : Nat) (ha : a < 18446744073709551616) (hb : b < 18446744073709551616) : Op.bytesLess (numN a) (numN b) = decide (a < b) := by
  have hda := digits_lt 8 a (by omega)
  have hdb := digits_lt 8 b (by omega)
  unfold numN
  by_cases h1 : a ≤ 247
  · rw [if_pos h1]
    by_cases h2 : b ≤ 247
    · rw [if_pos h2]
      have hlt : (UInt8.ofNat a < UInt8.ofNat b) ↔ a < b := by rw [UInt8.lt_iff_toNat_lt, UInt8.toNat_ofNat', UInt8.toNat_ofNat']; omega
      simp [Op.bytesLess, hlt]
    · rw [if_neg h2]
      have := digits_ge b (by omega)
      have hlt : UInt8.ofNat a < UInt8.ofNat (247 + digits b) := by rw [UInt8.lt_iff_toNat_lt, UInt8.toNat_ofNat', UInt8.toNat_ofNat']; omega
      have hab : a < b := by omega
      generalize UInt8.ofNat (247 + digits b) = c at *
      simp [Op.bytesLess, hlt, hab]
  · rw [if_neg h1]
    have hda1 := digits_ge a (by omega)
    by_cases h2 : b ≤ 247
    · rw [if_pos h2]
      have hlt : ¬ UInt8.ofNat (247 + digits a) < UInt8.ofNat b := by rw [UInt8.lt_iff_toNat_lt, UInt8.toNat_ofNat', UInt8.toNat_ofNat']; omega
      have hne : ¬ UInt8.ofNat (247 + digits a) = UInt8.ofNat b := fun e => by
        have := congrArg UInt8.toNat e
        rw [UInt8.toNat_ofNat', UInt8.toNat_ofNat'] at this; omega
      have hab : ¬ a < b := by omega
      generalize UInt8.ofNat (247 + digits a) = c at *
      simp [Op.bytesLess, hlt, hne, hab]
    · rw [if_neg h2]
      have hdb1 := digits_ge b (by omega)
      have hlt : (UInt8.ofNat (247 + digits a) < UInt8.ofNat (247 + digits b)) ↔ digits a < digits b := by rw [UInt8.lt_iff_toNat_lt, UInt8.toNat_ofNat', UInt8.toNat_ofNat']; omega
      have heq : (UInt8.ofNat (247 + digits a) = UInt8.ofNat (247 + digits b)) ↔ digits a = digits b := ⟨fun e => by
        have := congrArg UInt8.toNat e
        rw [UInt8.toNat_ofNat', UInt8.toNat_ofNat'] at this; omega, fun e => by rw [e]⟩
      simp only [Op.bytesLess]
      rcases Nat.lt_trichotomy (digits a) (digits b) with h | h | h
      · have : a < b := Classical.byContradiction fun hn => by have := digits_mono (Nat.le_of_not_lt hn); omega
        rw [decide_eq_true (hlt.2 h), decide_eq_true this]; rfl
      · rw [less_beB _ a b rfl h.symm]
        have e1 : decide (UInt8.ofNat (247 + digits a) < UInt8.ofNat (247 + digits b)) = false := decide_eq_false (fun e => by have := hlt.1 e; omega)
        have e2 : (UInt8.ofNat (247 + digits a) == UInt8.ofNat (247 + digits b)) = true := by rw [heq.2 h]; simp
        rw [e1, e2]; simp
      · have : ¬ a < b := fun hn => by have := digits_mono (Nat.le_of_lt hn); omega
        have e1 : decide (UInt8.ofNat (247 + digits a) < UInt8.ofNat (247 + digits b)) = false := decide_eq_false (fun e => by have := hlt.1 e; omega)
        have e2 : (UInt8.ofNat (247 + digits a) == UInt8.ofNat (247 + digits b)) = false := by simp only [beq_eq_false_iff_ne]; exact fun e => by have := heq.1 e; omega
        rw [e1, e2, decide_eq_false this]; rfl
theorem num_inj {a b : Nat} (ha : a < 18446744073709551616) (hb : b < 18446744073709551616) (h : numN a = numN b) : a = b := by
  have h1 := parse_num a [] ha
  have h2 := parse_num b [] hb
  rw [h, h2] at h1
  exact (congrArg Prod.fst h1).symm
/-- None is another one's beginning. -/
theorem num_free {a b : Nat} (ha : a < 18446744073709551616) (hb : b < 18446744073709551616) (hle : (numN a).length ≤ (numN b).length) (h : (numN b).take (numN a).length = numN a) : a = b := by
  have h1 := parse_num a ((numN b).drop (numN a).length) ha
  have h2 := parse_num b [] hb
  rw [List.append_nil] at h2
  have e : numN a ++ (numN b).drop (numN a).length = numN b := by
    conv => lhs; rw [← h]
    rw [List.length_take, Nat.min_eq_left hle, List.take_append_drop]
  rw [e, h2] at h1
  exact (congrArg Prod.fst h1).symm
end Go.Proofs.Ytkdbbdlkfpjdfaa
