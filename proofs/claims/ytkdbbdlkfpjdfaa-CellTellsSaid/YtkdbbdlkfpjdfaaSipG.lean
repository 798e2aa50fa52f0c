/- The hash of the package is the hash that its page describes.
   Conditions: those that each theorem names. -/
import Derived.Test.YtkdbbdlkfpjdfaaSipF
namespace Go.Proofs.Ytkdbbdlkfpjdfaa
set_option maxRecDepth 100000
set_option linter.unusedVariables false
set_option linter.unusedSimpArgs false
set_option linter.unusedVariables false
open Go.RowKit Go.Rg
theorem hN_append : ∀ p l : List UInt8, hN (p ++ l) = hN p + 256 ^ p.length * hN l
  | [], l => by simp [hN]
  | c :: p, l => by
    simp only [List.cons_append, hN, hN_append p l, List.length_cons, Nat.pow_succ]
    rw [Nat.mul_add, Nat.add_assoc, ← Nat.mul_assoc, Nat.mul_comm 256 (256 ^ p.length)]
theorem hN_zeros : ∀ k : Nat, hN (List.replicate k 0) = 0
  | 0 => rfl
  | k + 1 => by rw [List.replicate_succ, hN, hN_zeros k]; rfl
theorem or_add (a b i : Nat) (h : b < 2 ^ i) : b ||| 2 ^ i * a = b + 2 ^ i * a := by
  rw [Nat.or_comm, ← Nat.two_pow_add_eq_or_of_lt h, Nat.add_comm]
theorem word_toNat (l : List UInt8) (h : l.length ≤ 8) : (word l).toNat = hN l := by
  have h1 := hN_lt l
  have h2 : 256 ^ l.length ≤ 256 ^ 8 := Nat.pow_le_pow_right (by decide) h
  unfold word
  rw [UInt64.toNat_ofNat', Nat.mod_eq_of_lt (by omega)]
theorem word_snoc (p : List UInt8) (c : UInt8) (h : p.length ≤ 7) : word p ||| sh c p.length = word (p ++ [c]) := by
  apply UInt64.toNat_inj.1
  rw [UInt64.toNat_or, word_toNat p (by omega), word_toNat (p ++ [c]) (by simp; omega), hN_append]
  have h1 := hN_lt p
  have hc := c.toNat_lt
  have e : (256 : Nat) ^ p.length = 2 ^ (8 * p.length) := by rw [Nat.pow_mul]
  have es : (sh c p.length).toNat = 2 ^ (8 * p.length) * c.toNat := by
    unfold sh
    have hlt : 2 ^ (8 * p.length) * c.toNat < 2 ^ 64 := by
      have : 2 ^ (8 * p.length) ≤ 2 ^ 56 := Nat.pow_le_pow_right (by decide) (by omega)
      calc 2 ^ (8 * p.length) * c.toNat ≤ 2 ^ 56 * c.toNat := Nat.mul_le_mul_right _ this
        _ < 2 ^ 64 := by omega
    rw [UInt64.toNat_shiftLeft]
    simp
    rw [Nat.mod_eq_of_lt (show 8 * p.length < 64 by omega), Nat.shiftLeft_eq, Nat.mul_comm, Nat.mod_eq_of_lt hlt]
  rw [es, e, or_add _ _ _ (e ▸ h1)]
  simp [hN]
theorem write_part (s : S4) (n : Nat) (h8 : n % 8 = 0) : ∀ (l p : List UInt8), p.length + l.length ≤ 7 → (Sp.mk s (word p) (n + p.length)).write l = Sp.mk s (word (p ++ l)) (n + (p ++ l).length)
  | [], p, _ => by simp [Sp.write]
  | c :: l, p, h => by
    simp only [List.length_cons] at h
    have e : (Sp.mk s (word p) (n + p.length)).write (c :: l) = ((Sp.mk s (word p) (n + p.length)).step c).write l := rfl
    have e2 : (Sp.mk s (word p) (n + p.length)).step c = Sp.mk s (word (p ++ [c])) (n + (p ++ [c]).length) := by
      unfold Sp.step
      dsimp only
      rw [if_neg (by omega), show (n + p.length) % 8 = p.length by omega, word_snoc p c (by omega)]
      simp [Nat.add_assoc]
    rw [e, e2, write_part s n h8 l (p ++ [c]) (by simp; omega)]
    simp
theorem write_eight (s : S4) (n : Nat) (h8 : n % 8 = 0) (l : List UInt8) (hl : l.length = 8) : (Sp.mk s 0 n).write l = Sp.mk (s.take (word l)) 0 (n + 8) := by
  have e : l = l.take 7 ++ [l[7]] := by
    have := List.take_append_getElem (l := l) (i := 7) (by omega)
    rw [this, List.take_of_length_le (by omega)]
  have h7 : (l.take 7).length = 7 := by simp; omega
  generalize l.take 7 = p at *
  generalize l[7] = c at *
  subst e
  have e1 := write_part s n h8 p [] (by simp; omega)
  rw [Sp.write_append]
  have e0 : Sp.mk s 0 n = Sp.mk s (word []) (n + ([] : List UInt8).length) := rfl
  rw [e0, e1]
  show Sp.step _ c = _
  unfold Sp.step
  simp only [List.nil_append, h7]
  rw [if_pos (by omega), show (n + 7) % 8 = 7 by omega]
  have := word_snoc p c (by omega)
  rw [h7] at this
  rw [this]
def padN (N : Nat) (l : List UInt8) : List UInt8 := l ++ List.replicate (pd l) 0 ++ [UInt8.ofNat (N % 256)]
theorem word_pad (N : Nat) (l : List UInt8) (hl : l.length ≤ 7) : word (padN N l) = word l ||| top N := by
  have hpd : l.length + pd l = 7 := by unfold pd; omega
  have h7 : (l ++ List.replicate (pd l) 0).length = 7 := by simp; omega
  unfold padN
  rw [← word_snoc _ _ (by omega), h7]
  have e1 : word (l ++ List.replicate (pd l) 0) = word l := by unfold word; rw [hN_append, hN_zeros]; simp
  have e2 : sh (UInt8.ofNat (N % 256)) 7 = top N := by
    apply UInt64.toNat_inj.1
    unfold sh top
    simp only [UInt64.toNat_shiftLeft]
    simp [Nat.shiftLeft_eq]
    omega
  rw [e1, e2]
theorem walk_eq (N k : Nat) : ∀ (l : List UInt8) (s : S4) (n : Nat), n % 8 = 0 → n + l.length = N → l.length / 8 = k →
    ((Sp.mk s 0 n).write l).sum = (refIt ((l.length + 8) / 8) s (padN N l)).fin := by
  induction k with
  | zero =>
    intro l s n h8 hN hk
    have hl : l.length ≤ 7 := by omega
    have e1 := write_part s n h8 l [] (by simp; omega)
    have e0 : Sp.mk s 0 n = Sp.mk s (word []) (n + ([] : List UInt8).length) := rfl
    rw [e0, e1, show (l.length + 8) / 8 = 1 by omega]
    have hpd : l.length + pd l = 7 := by unfold pd; omega
    have h8' : (padN N l).length = 8 := by unfold padN; simp; omega
    have e2 : refIt 1 s (padN N l) = S4.take s (word (padN N l)) := by
      unfold refIt refIt
      rw [List.take_of_length_le (by omega)]
    rw [e2, word_pad N l hl]
    unfold Sp.sum
    simp only [List.nil_append, hN]
  | succ k ih =>
    intro l s n h8 hN hk
    have hl : 8 ≤ l.length := by omega
    have e8 : (l.take 8).length = 8 := by simp; omega
    have ed : (l.drop 8).length = l.length - 8 := by simp
    have e : (Sp.mk s 0 n).write l = (Sp.mk (s.take (word (l.take 8))) 0 (n + 8)).write (l.drop 8) := by
      rw [← write_eight s n h8 _ e8, ← Sp.write_append, List.take_append_drop]
    have epd : pd (l.drop 8) = pd l := by unfold pd; rw [ed]; omega
    have ep : padN N l = l.take 8 ++ padN N (l.drop 8) := by
      unfold padN
      rw [epd, ← List.append_assoc, ← List.append_assoc, List.take_append_drop]
    rw [e, ih (l.drop 8) _ (n + 8) (by omega) (by omega) (by omega), ed, show (l.length + 8) / 8 = (l.length - 8 + 8) / 8 + 1 by omega]
    rw [refIt, ep, List.take_left' e8, List.drop_left' e8]
/-- **The two hashes are one.** -/
theorem hash_eq (A B : UInt64) (l : List UInt8) : hashS A B l = refHash A B l := by
  unfold hashS refHash newP
  exact walk_eq l.length _ l _ 0 rfl (by simp) rfl
end Go.Proofs.Ytkdbbdlkfpjdfaa
