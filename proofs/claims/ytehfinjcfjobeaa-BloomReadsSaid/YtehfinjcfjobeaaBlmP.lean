/- Filters: the plain law of their bits.
   Conditions: those that each theorem names. -/
import Derived.Test.YtehfinjcfjobeaaBlmD
namespace Go.Proofs.Ytehfinjcfjobeaa
set_option maxRecDepth 100000
set_option linter.unusedVariables false
set_option linter.unusedSimpArgs false
open Go.Rg
theorem bitB_test (l : List UInt8) (p : Nat) : bitB l p = (l.getD (p / 8) 0).toNat.testBit (p % 8) := by
  unfold bitB
  rw [Nat.testBit_eq_decide_div_mod_eq]
theorem pow_toNat (r : Nat) (hr : r < 8) : (UInt8.ofNat (2 ^ r)).toNat = 2 ^ r := by
  rw [UInt8.toNat_ofNat']
  exact Nat.mod_eq_of_lt (Nat.pow_lt_pow_right (by omega) hr)
theorem bit_put (l : List UInt8) (p q : Nat) (hp : p < 8 * l.length) : bitB (putBit l p) q = (bitB l q || decide (p = q)) := by
  rw [bitB_test, bitB_test]
  unfold putBit
  have hp8 : p / 8 < l.length := by omega
  by_cases e : p / 8 = q / 8
  · rw [← e, List.getD_eq_getElem?_getD, List.getElem?_set_self hp8]
    simp only [Option.getD_some]
    rw [UInt8.toNat_or, Nat.testBit_or, pow_toNat _ (Nat.mod_lt _ (by omega)), Nat.testBit_two_pow]
    congr 1
    rw [decide_eq_decide]
    omega
  · rw [List.getD_eq_getElem?_getD, List.getElem?_set_ne e, ← List.getD_eq_getElem?_getD]
    have : decide (p = q) = false := decide_eq_false (fun h => e (by rw [h]))
    rw [this, Bool.or_false]
theorem bit_addP (l : List UInt8) (h : UInt64) (n : Nat) (hn : n = 8 * l.length) (h0 : 0 < n) (q : Nat) : ∀ i, bitB (addP l h n i) q = (bitB l q || (List.range i).any fun j => decide (plN h n j = q))
  | 0 => by
    show bitB l q = _
    simp
  | i + 1 => by
    have hlt : plN h n i < n := Nat.mod_lt _ h0
    rw [addP_succ, bit_put _ _ _ (by rw [addP_length]; omega), bit_addP l h n hn h0 q i, Bool.or_assoc, List.range_succ, List.any_append]
    simp
def inPl (n : Nat) (m : List UInt8) (q : Nat) : Prop := ∃ j, j < 4 ∧ plN (hash8 m) n j = q
def inB (n : Nat) (m : List UInt8) (q : Nat) : Bool := (List.range 4).any fun j => decide (plN (hash8 m) n j = q)
theorem inB_iff {n q : Nat} {m : List UInt8} : inB n m q = true ↔ inPl n m q := by
  unfold inB inPl
  rw [List.any_eq_true]
  constructor
  · rintro ⟨j, hj, e⟩
    exact ⟨j, List.mem_range.1 hj, of_decide_eq_true e⟩
  · rintro ⟨j, hj, e⟩
    exact ⟨j, List.mem_range.2 hj, decide_eq_true e⟩
theorem inPl_lt {n q : Nat} {m : List UInt8} (h0 : 0 < n) (h : inPl n m q) : q < n := by
  obtain ⟨j, _, rfl⟩ := h
  exact Nat.mod_lt _ h0
theorem bit_addB (l m : List UInt8) (h0 : 0 < l.length) (q : Nat) : bitB (addB l m) q = (bitB l q || inB (8 * l.length) m q) := bit_addP l _ _ rfl (by omega) q 4
theorem may_iff (l m : List UInt8) : mayB l m = true ↔ ∀ q, inPl (8 * l.length) m q → bitB l q = true := by
  unfold mayB
  rw [List.all_eq_true]
  constructor
  · rintro h q ⟨j, hj, rfl⟩
    exact h j (List.mem_range.2 hj)
  · intro h j hj
    exact h _ ⟨j, List.mem_range.1 hj, rfl⟩
theorem may_add (l m : List UInt8) (h0 : 0 < l.length) : mayB (addB l m) m = true := by
  rw [may_iff]
  intro q hq
  rw [addB_length] at hq
  rw [bit_addB l m h0, inB_iff.2 hq, Bool.or_true]
theorem may_mono (l l' m : List UInt8) (hl : l.length = l'.length) (h : ∀ q, bitB l q = true → bitB l' q = true) (hm : mayB l m = true) : mayB l' m = true := by
  rw [may_iff] at hm ⊢
  intro q hq
  exact h q (hm q (by rw [hl]; exact hq))
theorem may_keep (l m x : List UInt8) (h0 : 0 < l.length) (h : mayB l x = true) : mayB (addB l m) x = true :=
  may_mono l _ x (addB_length l m).symm (fun q hq => by rw [bit_addB l m h0, hq, Bool.true_or]) h
theorem bit_zero (n q : Nat) : bitB (List.replicate n 0) q = false := by
  rw [bitB_test, List.getD_eq_getElem?_getD, List.getElem?_replicate]
  by_cases h : q / 8 < n
  · rw [if_pos h]; simp
  · rw [if_neg h]; simp
theorem may_zero (n : Nat) (m : List UInt8) : mayB (List.replicate n 0) m = false := by
  cases h : mayB (List.replicate n 0) m with
  | false => rfl
  | true =>
    have := (may_iff _ _).1 h _ ⟨0, by omega, rfl⟩
    rw [bit_zero] at this
    cases this
theorem bit_or (a b : List UInt8) (hl : a.length = b.length) (q : Nat) : bitB (orL a b) q = (bitB a q || bitB b q) := by
  rw [bitB_test, bitB_test, bitB_test]
  unfold orL
  by_cases h : q / 8 < a.length
  · rw [List.getD_eq_getElem?_getD, orI_get a b a.length _ h, if_pos h]
    simp only [Option.getD_some]
    rw [UInt8.toNat_or, Nat.testBit_or]
  · rw [List.getD_eq_getElem?_getD, List.getElem?_eq_none (by rw [orI_length]; omega), List.getD_eq_getElem?_getD, List.getElem?_eq_none (l := a) (by omega), List.getD_eq_getElem?_getD, List.getElem?_eq_none (l := b) (by omega)]
    simp
/-- Filters with the same bits are the same. -/
theorem byte_ext (x y : UInt8) (h : ∀ r, r < 8 → x.toNat.testBit r = y.toNat.testBit r) : x = y := by
  apply UInt8.toNat_inj.1
  apply Nat.eq_of_testBit_eq
  intro r
  by_cases hr : r < 8
  · exact h r hr
  · have h1 : x.toNat < 2 ^ r := Nat.lt_of_lt_of_le x.toNat_lt (Nat.pow_le_pow_right (by omega) (by omega))
    have h2 : y.toNat < 2 ^ r := Nat.lt_of_lt_of_le y.toNat_lt (Nat.pow_le_pow_right (by omega) (by omega))
    rw [Nat.testBit_lt_two_pow h1, Nat.testBit_lt_two_pow h2]
theorem bits_ext (a b : List UInt8) (hl : a.length = b.length) (h : ∀ q, q < 8 * a.length → bitB a q = bitB b q) : a = b := by
  apply List.ext_getElem hl
  intro i h1 h2
  apply byte_ext
  intro r hr
  have := h (8 * i + r) (by omega)
  rw [bitB_test, bitB_test, show (8 * i + r) / 8 = i by omega, show (8 * i + r) % 8 = r by omega, List.getD_eq_getElem?_getD, List.getElem?_eq_getElem h1, List.getD_eq_getElem?_getD, List.getElem?_eq_getElem h2] at this
  exact this
/-! ### Counting -/
theorem popc_count (x : UInt8) (t : List UInt8) : popc x = (List.range 8).countP (bitB (x :: t)) := by
  unfold popc
  rw [List.countP_eq_length_filter]
  congr 1
theorem cnt_count : ∀ l : List UInt8, cntB l = (List.range (8 * l.length)).countP (bitB l)
  | [] => rfl
  | x :: t => by
    have e : 8 * (x :: t).length = 8 + 8 * t.length := by simp; omega
    rw [e, List.range_add, List.countP_append, ← popc_count, List.countP_map]
    have h2 : (List.range (8 * t.length)).countP (bitB (x :: t) ∘ fun y => 8 + y) = (List.range (8 * t.length)).countP (bitB t) := by
      apply List.countP_congr
      intro q _
      simp only [Function.comp]
      rw [bitB_test, bitB_test, show (8 + q) / 8 = q / 8 + 1 by omega, show (8 + q) % 8 = q % 8 by omega]
      rfl
    rw [h2, ← cnt_count t]
    rfl
theorem count_or (p r : Nat → Bool) (L : List Nat) : L.countP (fun q => p q || r q) ≤ L.countP p + L.countP r := by
  induction L with
  | nil => simp
  | cons a t ih =>
    simp only [List.countP_cons]
    cases p a <;> cases r a <;> simp <;> omega
theorem count_pl (n : Nat) (m : List UInt8) (N : Nat) : (List.range N).countP (fun q => inB n m q) ≤ 4 := by
  rw [List.countP_eq_length_filter]
  have h : ((List.range N).filter fun q => inB n m q).length ≤ ((List.range 4).map (plN (hash8 m) n)).length := by
    apply List.Nodup.length_le_of_subset
    · exact List.nodup_range.filter _
    · intro q hq
      obtain ⟨_, h⟩ := List.mem_filter.1 hq
      obtain ⟨j, hj, rfl⟩ := inB_iff.1 h
      exact List.mem_map.2 ⟨j, List.mem_range.2 hj, rfl⟩
  simpa using h
theorem cnt_add (l m : List UInt8) (h0 : 0 < l.length) : cntB (addB l m) ≤ cntB l + 4 := by
  rw [cnt_count, cnt_count, addB_length]
  have e : (List.range (8 * l.length)).countP (bitB (addB l m)) = (List.range (8 * l.length)).countP (fun q => bitB l q || inB (8 * l.length) m q) := by
    apply List.countP_congr
    intro q _
    rw [bit_addB l m h0]
  rw [e]
  exact Nat.le_trans (count_or _ _ _) (Nat.add_le_add_left (count_pl _ _ _) _)
theorem cnt_mono (a b : List UInt8) (hl : a.length = b.length) (h : ∀ q, bitB a q = true → bitB b q = true) : cntB a ≤ cntB b := by
  rw [cnt_count, cnt_count, hl]
  exact List.countP_mono_left (fun q _ => h q)
theorem cnt_pos (l : List UInt8) (q : Nat) (hq : q < 8 * l.length) (h : bitB l q = true) : 0 < cntB l := by
  rw [cnt_count, List.countP_pos_iff]
  exact ⟨q, List.mem_range.2 hq, h⟩
theorem cnt_zero (n : Nat) : cntB (List.replicate n 0) = 0 := by
  rw [cnt_count, List.countP_eq_zero]
  intro q _
  rw [bit_zero]; simp
/-! ### Many marks -/
def addAll (l : List UInt8) (ms : List (List UInt8)) : List UInt8 := ms.foldl addB l
theorem addAll_length (ms : List (List UInt8)) : ∀ l, (addAll l ms).length = l.length := by
  induction ms with
  | nil => intro l; rfl
  | cons m t ih => intro l; exact (ih _).trans (addB_length l m)
theorem addAll_snoc (l : List UInt8) (ms : List (List UInt8)) (m : List UInt8) : addAll l (ms ++ [m]) = addB (addAll l ms) m := by simp [addAll]
theorem bit_addAll (ms : List (List UInt8)) : ∀ (l : List UInt8) (_ : 0 < l.length) (q : Nat), bitB (addAll l ms) q = (bitB l q || ms.any fun m => inB (8 * l.length) m q) := by
  induction ms with
  | nil => intro l _ q; simp [addAll]
  | cons m t ih =>
    intro l h0 q
    show bitB (addAll (addB l m) t) q = _
    rw [ih _ (by rw [addB_length]; exact h0), bit_addB l m h0, addB_length, Bool.or_assoc]
    rw [List.any_cons]
theorem may_addAll (l : List UInt8) (ms : List (List UInt8)) (h0 : 0 < l.length) (m : List UInt8) (hm : m ∈ ms) : mayB (addAll l ms) m = true := by
  rw [may_iff, addAll_length]
  intro q hq
  rw [bit_addAll ms l h0, List.any_eq_true.2 ⟨m, hm, inB_iff.2 hq⟩, Bool.or_true]
theorem cnt_addAll (n : Nat) (h0 : 0 < n) (ms : List (List UInt8)) : cntB (addAll (List.replicate n 0) ms) ≤ 4 * ms.length := by
  have key : ∀ (ms : List (List UInt8)) (l : List UInt8), 0 < l.length → cntB (addAll l ms) ≤ cntB l + 4 * ms.length := by
    intro ms
    induction ms with
    | nil => intro l _; exact Nat.le_refl _
    | cons m t ih =>
      intro l h0
      have h1 := ih (addB l m) (by rw [addB_length]; exact h0)
      have h2 := cnt_add l m h0
      show cntB (addAll (addB l m) t) ≤ _
      rw [List.length_cons]
      omega
  have := key ms (List.replicate n 0) (by simpa using h0)
  rw [cnt_zero] at this
  omega
theorem cnt_union (a z m : List UInt8) (hl : a.length = z.length) (h0 : 0 < z.length) (hz : ∀ q, bitB z q = false) : cntB (orL a (addB z m)) ≤ cntB a + 4 := by
  rw [cnt_count, cnt_count, orL_length]
  have e : (List.range (8 * a.length)).countP (bitB (orL a (addB z m))) = (List.range (8 * a.length)).countP (fun q => bitB a q || inB (8 * z.length) m q) := by
    apply List.countP_congr
    intro q _
    rw [bit_or a _ (by rw [addB_length]; exact hl), bit_addB z m h0, hz, Bool.false_or]
  rw [e]
  exact Nat.le_trans (count_or _ _ _) (Nat.add_le_add_left (count_pl _ _ _) _)
theorem may_left (a b m : List UInt8) (hl : a.length = b.length) (h : mayB a m = true) : mayB (orL a b) m = true :=
  may_mono a _ m (orL_length a b).symm (fun q hq => by rw [bit_or a b hl, hq, Bool.true_or]) h
theorem may_right (a b m : List UInt8) (hl : a.length = b.length) (h : mayB b m = true) : mayB (orL a b) m = true :=
  may_mono b _ m ((orL_length a b).trans hl).symm (fun q hq => by rw [bit_or a b hl, hq, Bool.or_true]) h
end Go.Proofs.Ytehfinjcfjobeaa
