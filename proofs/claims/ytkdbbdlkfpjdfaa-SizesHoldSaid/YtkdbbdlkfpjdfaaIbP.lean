/- Sketches: the plain law of their cells.
   Conditions: those that each theorem names. -/
import Derived.Test.YtkdbbdlkfpjdfaaIbD
import Derived.Test.YtkdbbdlkfpjdfaaCelL
import Derived.Test.YtkdbbdlkfpjdfaaC10A
namespace Go.Proofs.Ytkdbbdlkfpjdfaa
set_option maxRecDepth 100000
set_option linter.unusedVariables false
set_option linter.unusedSimpArgs false
open Go.Rg
def inP (m : List UInt8) (t p : Nat) : Bool := (List.range 3).any fun j => decide (pcN (hash4 m) t j = p)
theorem pcN_third (h : UInt64) (t i : Nat) (ht : 0 < t) : pcN h t i / t = i := by
  unfold pcN
  rw [Nat.mul_comm, Nat.mul_add_div ht, Nat.div_eq_of_lt (Nat.mod_lt _ ht), Nat.add_zero]
theorem putP_get (f : Ce → Ce → Ce) (cs : List Ce) (x : Ce) (h : UInt64) (t : Nat) (ht : 0 < t) (hl : cs.length = 3 * t) (p : Nat) : ∀ i, i ≤ 3 →
    (putP f cs x h t i).getD p Ce.zero = if (List.range i).any (fun j => decide (pcN h t j = p)) then f (cs.getD p Ce.zero) x else cs.getD p Ce.zero
  | 0, _ => by simp [putP]
  | i + 1, hi => by
    have ih := putP_get f cs x h t ht hl p i (by omega)
    have hlt := pcN_lt h t i ht (by omega)
    have hlen := putP_length f cs x h t i
    rw [putP_succ, List.getD_eq_getElem?_getD, List.range_succ, List.any_append]
    by_cases e : pcN h t i = p
    · rw [e, List.getElem?_set_self (by omega)]
      have hno : (List.range i).any (fun j => decide (pcN h t j = p)) = false := by
        rw [List.any_eq_false]
        intro j hj
        have hj' := List.mem_range.1 hj
        intro hd
        have e2 := of_decide_eq_true hd
        have h1 := pcN_third h t i ht
        have h2 := pcN_third h t j ht
        rw [e] at h1
        rw [e2] at h2
        omega
      rw [hno] at ih
      simp only [Option.getD_some, e, List.any_cons, List.any_nil, decide_true, Bool.or_false, Bool.or_true, if_true]
      rw [ih]; simp
    · rw [List.getElem?_set_ne e, ← List.getD_eq_getElem?_getD, ih]
      have : ([i].any fun j => decide (pcN h t j = p)) = false := by simp [e]
      rw [this, Bool.or_false]
theorem putC_get (f : Ce → Ce → Ce) (cs : List Ce) (m : List UInt8) (t : Nat) (ht : 0 < t) (hl : cs.length = 3 * t) (p : Nat) :
    (putC f cs m).getD p Ce.zero = if inP m t p then f (cs.getD p Ce.zero) (Ce.of m) else cs.getD p Ce.zero := by
  unfold putC
  rw [hl, show 3 * t / 3 = t by omega]
  exact putP_get f cs (Ce.of m) (hash4 m) t ht hl p 3 (Nat.le_refl _)
theorem cells_ext {a b : List Ce} (hl : a.length = b.length) (h : ∀ p, p < a.length → a.getD p Ce.zero = b.getD p Ce.zero) : a = b := by
  apply List.ext_getElem hl
  intro i h1 h2
  have := h i h1
  rw [List.getD_eq_getElem?_getD, List.getD_eq_getElem?_getD, List.getElem?_eq_getElem h1, List.getElem?_eq_getElem h2] at this
  exact this
theorem zeros_get (n p : Nat) : (List.replicate n Ce.zero).getD p Ce.zero = Ce.zero := by
  rw [List.getD_eq_getElem?_getD, List.getElem?_replicate]
  split <;> rfl
theorem subL_get (a b : List Ce) (p : Nat) (hp : p < a.length) : (subL a b).getD p Ce.zero = (a.getD p Ce.zero).sub (b.getD p Ce.zero) := by
  rw [List.getD_eq_getElem?_getD]
  unfold subL
  rw [subI_get a b a.length p hp, if_pos hp]; rfl
theorem sub_self' (a : Ce) (h : a.ok) : a.sub a = Ce.zero := by
  have := sub_add Ce.zero a Ce.zero_ok h
  rwa [Ce.zero_add a h] at this
theorem sub_zero' (a : Ce) (h : a.ok) : a.sub Ce.zero = a := by
  have := sub_add a Ce.zero h Ce.zero_ok
  rwa [Ce.add_zero a h] at this
theorem empty_iff (cs : List Ce) : emptyB cs = true ↔ cs = List.replicate cs.length Ce.zero := by
  unfold emptyB
  rw [List.all_eq_true, List.eq_replicate_iff]
  constructor
  · intro h
    exact ⟨rfl, fun b hb => (Ce.eq_iff _ _).1 (h b hb)⟩
  · rintro ⟨_, h⟩ c hc
    exact (Ce.eq_iff _ _).2 (h c hc)
/-- What is asked first: two marks, one of them less, and the other one taken out. -/
theorem first_empty (t : Nat) (ht : 0 < t) (a b : List UInt8) (ha : a.length = 16) (hb : b.length = 16) :
    putC Ce.sub (subL (putAll Ce.add (List.replicate (3 * t) Ce.zero) [a, b]) (putAll Ce.add (List.replicate (3 * t) Ce.zero) [b])) a = List.replicate (3 * t) Ce.zero := by
  have hz : (List.replicate (3 * t) Ce.zero).length = 3 * t := by simp
  have l1 : (putC Ce.add (List.replicate (3 * t) Ce.zero) a).length = 3 * t := by rw [putC_length, hz]
  have l2 : (putC Ce.add (putC Ce.add (List.replicate (3 * t) Ce.zero) a) b).length = 3 * t := by rw [putC_length, l1]
  have oa := Ce.of_ok ha
  have ob := Ce.of_ok hb
  show putC Ce.sub (subL (putC Ce.add (putC Ce.add (List.replicate (3 * t) Ce.zero) a) b) (putC Ce.add (List.replicate (3 * t) Ce.zero) b)) a = _
  apply cells_ext
  · rw [putC_length, subL_length, l2, hz]
  · intro p hp
    rw [putC_length, subL_length, l2] at hp
    rw [putC_get _ _ a t ht (by rw [subL_length, l2]) p, subL_get _ _ p (by rw [l2]; exact hp), putC_get _ _ b t ht l1 p, putC_get _ _ a t ht hz p, putC_get _ _ b t ht hz p, zeros_get]
    cases inP a t p <;> cases inP b t p <;> simp only [if_true, Bool.false_eq_true, if_false]
    · exact sub_self' _ Ce.zero_ok
    · exact sub_self' _ (Ce.add_ok Ce.zero_ok ob)
    · rw [sub_zero' _ (Ce.add_ok Ce.zero_ok oa), Ce.zero_add _ oa]
      exact sub_self' _ oa
    · rw [Ce.zero_add _ oa, Ce.zero_add _ ob, sub_add _ _ oa ob]
      exact sub_self' _ oa
theorem first_full (t : Nat) (ht : 0 < t) (a b : List UInt8) (ha : a.length = 16) (hb : b.length = 16) : emptyB (putAll Ce.add (List.replicate (3 * t) Ce.zero) [a, b]) = false := by
  have hz : (List.replicate (3 * t) Ce.zero).length = 3 * t := by simp
  have l1 : (putC Ce.add (List.replicate (3 * t) Ce.zero) a).length = 3 * t := by rw [putC_length, hz]
  have l2 : (putC Ce.add (putC Ce.add (List.replicate (3 * t) Ce.zero) a) b).length = 3 * t := by rw [putC_length, l1]
  cases h : emptyB (putAll Ce.add (List.replicate (3 * t) Ce.zero) [a, b]) with
  | false => rfl
  | true =>
    exfalso
    have he : putC Ce.add (putC Ce.add (List.replicate (3 * t) Ce.zero) a) b = _ := (empty_iff _).1 h
    have hp : inP a t (pcN (hash4 a) t 0) = true := by unfold inP; rw [List.any_eq_true]; exact ⟨0, by simp, by simp⟩
    have hg := congrArg (fun l => l.getD (pcN (hash4 a) t 0) Ce.zero) he
    rw [zeros_get, putC_get _ _ b t ht l1, putC_get _ _ a t ht hz, hp, zeros_get] at hg
    simp only [if_true] at hg
    rw [Ce.zero_add _ (Ce.of_ok ha)] at hg
    have hn : ∀ q : Bool, (if q = true then ((Ce.of a).add (Ce.of b)) else Ce.of a) ≠ Ce.zero := by
      intro q hq
      cases q with
      | false => exact absurd (show ((1 : Int)) = 0 from congrArg Ce.n hq) (by decide)
      | true => exact absurd (show ((2 : Int)) = 0 from congrArg Ce.n hq) (by decide)
    exact hn _ hg
end Go.Proofs.Ytkdbbdlkfpjdfaa
