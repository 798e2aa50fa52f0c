/- A cell's bytes are read back.
   Conditions: those that each theorem names. -/
import Derived.Test.YtkdbbdlkfpjdfaaCelP
import Derived.Test.YtkdbbdlkfpjdfaaCelG
import Derived.Test.YtkdbbdlkfpjdfaaSq
import Derived.Test.YtkdbbdlkfpjdfaaPq
namespace Go.Proofs.Ytkdbbdlkfpjdfaa
set_option maxRecDepth 100000
set_option linter.unusedVariables false
set_option linter.unusedSimpArgs false
open Go.RowKit Go.Rg
theorem chk_fold : ∀ (l : List UInt8) (u : UInt64) (k : Nat), u.toNat < 256 ^ k → k + l.length ≤ 8 → (l.foldl (fun (u : UInt64) (c : UInt8) => (u <<< 8) ||| c.toUInt64) u).toNat = l.foldl (fun (a : Nat) (c : UInt8) => a * 256 + c.toNat) u.toNat
  | [], u, k, _, _ => rfl
  | c :: l, u, k, hu, hk => by
    rw [List.length_cons] at hk
    have h7 : 256 ^ k ≤ 256 ^ 7 := Nat.pow_le_pow_right (by omega) (by omega)
    have hc := c.toNat_lt
    have e : ((u <<< 8) ||| c.toUInt64).toNat = u.toNat * 256 + c.toNat := by
      rw [UInt64.toNat_or, UInt64.toNat_shiftLeft, Nat.shiftLeft_eq]
      have e8 : (8 : UInt64).toNat % 64 = 8 := rfl
      rw [e8, Nat.mod_eq_of_lt (by omega), UInt8.toNat_toUInt64, Nat.or_comm, show u.toNat * 2 ^ 8 = 2 ^ 8 * u.toNat by omega, or_add _ _ _ (by omega)]
      omega
    rw [List.foldl_cons, List.foldl_cons, chk_fold l _ (k + 1) (by rw [e, Nat.pow_succ]; omega) (by omega), e]
theorem chk_val (l : List UInt8) (h : l.length ≤ 8) : (chk l).toNat = valB l := chk_fold l 0 0 (by decide) (by omega)
theorem val_eight (h : UInt64) : valB (eightL h) = h.toNat := by
  have e : ∀ k, k < 8 → (mb h k).toNat = h.toNat / 2 ^ (8 * (7 - k)) % 256 := by
    intro k hk
    unfold mb
    rw [UInt64.toNat_toUInt8, UInt64.toNat_shiftRight, Nat.shiftRight_eq_div_pow]
    have : ((8 * (7 - k)).toUInt64.toNat % 64) = 8 * (7 - k) := by simp; omega
    rw [this]
  have hl := h.toNat_lt
  simp only [eightL, List.range_succ, List.range_zero, List.nil_append, List.map_append, List.map_cons, List.map_nil, List.cons_append, valB, List.foldl_cons, List.foldl_nil]
  rw [e 0 (by omega), e 1 (by omega), e 2 (by omega), e 3 (by omega), e 4 (by omega), e 5 (by omega), e 6 (by omega), e 7 (by omega)]
  generalize h.toNat = x at *
  simp only [Nat.reduceSub, Nat.reduceMul, Nat.reducePow]
  omega
theorem chk_eight (h : UInt64) : chk (eightL h) = h := by
  apply UInt64.toNat_inj.1
  rw [chk_val _ (by simp [eightL]), val_eight]
theorem eightL_length (h : UInt64) : (eightL h).length = 8 := by simp [eightL]
theorem cell_back (c : Ce) (hc : c.ok) (hr : c.right = true) (t : List UInt8) : (Ey.mk (c.bytes ++ t) 0).cell = (c, ⟨t, 0⟩) := by
  have h1 := number_num (zigN c.n).toNat (c.m ++ (eightL c.h ++ t)) 18446744073709551615 (zigN c.n).toNat_lt (by have := (zigN c.n).toNat_lt; exact Nat.le_of_lt_succ this)
  have eb : c.bytes ++ t = numN (zigN c.n).toNat ++ (c.m ++ (eightL c.h ++ t)) := by simp [Ce.bytes, List.append_assoc]
  have e1 : (Ey.mk (c.bytes ++ t) 0).c1 = ⟨c.m ++ (eightL c.h ++ t), 0⟩ := by unfold Ey.c1; rw [eb, h1]
  have en : (Ey.mk (c.bytes ++ t) 0).cn = c.n := by unfold Ey.cn; rw [eb, h1, UInt64.ofNat_toNat, zag_zig c.n ⟨hc.lo, hc.hi⟩]
  have h2 : (Ey.mk (c.m ++ (eightL c.h ++ t)) 0).fixed 16 = (c.m, ⟨eightL c.h ++ t, 0⟩) := by
    unfold Ey.fixed
    have hl : c.m.length = (16 : Int).toNat := hc.m
    rw [if_neg (by simp), if_neg (by decide), if_neg (by dsimp only; rw [List.length_append]; have := hc.m; omega)]
    dsimp only
    rw [List.take_left' hl, List.drop_left' hl]
  have e2 : (Ey.mk (c.bytes ++ t) 0).c2 = ⟨eightL c.h ++ t, 0⟩ := by unfold Ey.c2; rw [e1, h2]
  have h3 : (Ey.mk (eightL c.h ++ t) 0).fixed 8 = (eightL c.h, ⟨t, 0⟩) := by
    unfold Ey.fixed
    have hl : (eightL c.h).length = (8 : Int).toNat := eightL_length c.h
    rw [if_neg (by simp), if_neg (by decide), if_neg (by dsimp only; rw [List.length_append]; have := eightL_length c.h; omega)]
    dsimp only
    rw [List.take_left' hl, List.drop_left' hl]
  have e3 : (Ey.mk (c.bytes ++ t) 0).c3 = ⟨t, 0⟩ := by unfold Ey.c3; rw [e2, h3]
  unfold Ey.cell
  rw [e3, en, if_pos rfl, if_pos (of_decide_eq_true hr)]
  unfold Ey.raw
  rw [en, e1, e2, h2, h3, chk_eight]
  have : full c.m = c.m := by unfold full; rw [hc.m]; simp
  dsimp only
  rw [this]
end Go.Proofs.Ytkdbbdlkfpjdfaa
