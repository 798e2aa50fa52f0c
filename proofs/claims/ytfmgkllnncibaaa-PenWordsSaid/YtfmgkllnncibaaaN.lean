/- The document's eye.
   Conditions: those that each theorem names. -/
import Derived.Test.YtfmgkllnncibaaaL
import Derived.Test.YtfmgkllnncibaaaStops0
namespace Go.Proofs.Ytfmgkllnncibaaa
set_option linter.unusedVariables false
set_option linter.unusedSimpArgs false
open Go.RowKit Go.Rg
attribute [local go_sem] Rg.q_add Rg.q_add' Rg.q_xor Rg.q_or Rg.q_and ba_app
theorem ba_pre (l : List UInt8) (k : Nat) : (⟨l.toArray⟩ : ByteArray).extract 0 k = ⟨(l.take k).toArray⟩ := by
  apply ByteArray.ext
  simp [ByteArray.data_extract]
theorem ba_suf (l : List UInt8) (k : Nat) : (⟨l.toArray⟩ : ByteArray).extract k l.length = ⟨(l.drop k).toArray⟩ := by
  apply ByteArray.ext
  simp [ByteArray.data_extract]
  exact List.take_of_length_le (by simp)
theorem bytes_size (l : List UInt8) : (⟨l.toArray⟩ : ByteArray).size = l.length := by simp [ByteArray.size]
def RefAt (b : Nat) (x : Ey) (W : World) : Prop := W.heap[b]? = some (.cells #[str x.s, .int .i64 x.e] 53 (0, 0))
theorem RefAt.cells {b : Nat} {x : Ey} {W : World} (h : RefAt b x W) : W.cell? ⟨b, 0, none⟩ = some (str x.s) ∧ W.cell? ⟨b, 1, none⟩ = some (.int .i64 x.e) ∧ W.frozen? ⟨b, 0, none⟩ = false ∧ W.frozen? ⟨b, 1, none⟩ = false := by
  have h' : W.heap[b]? = some (.cells #[str x.s, .int .i64 x.e] 53 (0, 0)) := h
  exact ⟨by simp [World.cell?, h'], by simp [World.cell?, h'], free_of h' 0, free_of h' 1⟩
theorem RefAt.keep {b : Nat} {x : Ey} {W X : World} {M : Nat → Prop} (h : RefAt b x W) (hT : Touch M W X) (hb : ¬ M b) : RefAt b x X := hT.keep h hb
theorem RefAt.below {b : Nat} {x : Ey} {W X : World} (h : RefAt b x W) (hB : Below W.heap.size W X) : RefAt b x X := (hB.block b (blk_lt h)).trans h
set_option maxRecDepth 100000 in
theorem ref_fail (b : Nat) (x : Ey) (f : Int) (w : World) (h : RefAt b x w) :
    Calls Try.prog 32 #[ptr b, .int .i64 f] w fun e w' => (∃ v, e = .returned v) ∧ RefAt b (x.fail f) w' ∧ Touch (fun k => k = b) w w' := by
  obtain ⟨k0, k1, f0, f1⟩ := h.cells
  have H := Lib.hid h
  clear h
  go_enter Try.func32, Try.ntmps32
  by_cases h1 : x.e = 0
  · have e1 : (x.e == 0) = true := by simp [h1]
    by_cases h2 : f = 0
    · have e2 : (f != 0) = false := by simp [h2]
      have e3 : x.fail f = x := by unfold Ey.fail; rw [if_neg (by simp [h2])]
      clear h1 h2
      go_wp2_with fail
      go_end0
      exact ⟨⟨_, rfl⟩, by rw [e3]; exact H.out, Touch.refl _ _⟩
    · have e2 : (f != 0) = true := by simp [h2]
      have e3 : x.fail f = ⟨[], f⟩ := by unfold Ey.fail; rw [if_pos ⟨h1, h2⟩]
      have E3 := Lib.hid e3
      clear h1 h2 e3
      go_wp2_with fail
      go_end0
      rw [E3.out]
      refine ⟨⟨_, rfl⟩, (block_set _ (block_set _ H.out)).trans rfl, ?_⟩
      exact ((Touch.refl (fun k => k = b) w).set b 1 _ (.inl rfl)).set b 0 _ (.inl rfl)
  · have e1 : (x.e == 0) = false := by simp [h1]
    have e3 : x.fail f = x := by unfold Ey.fail; rw [if_neg (by simp [h1])]
    clear h1
    go_wp2_with fail
    go_end0
    exact ⟨⟨_, rfl⟩, by rw [e3]; exact H.out, Touch.refl _ _⟩
theorem ref_end (b : Nat) (x : Ey) (w : World) (h : RefAt b x w) : Calls Try.prog 33 #[ptr b] w fun e w' => e = .returned (.int .i64 x.fin.e) ∧ RefAt b x.fin w' ∧ Touch (fun k => k = b) w w' := by
  obtain ⟨k0, k1, f0, f1⟩ := h.cells
  have H := Lib.hid h
  clear h
  go_enter Try.func33, Try.ntmps33
  by_cases h0 : x.s = []
  · have e2 : x.fin = x := by unfold Ey.fin; rw [if_pos h0]
    have e1 : x.s.isEmpty = true := by rw [h0]; rfl
    have E2 := Lib.hid e2
    clear e2 h0
    go_wp2_with fail
    go_ret
    rw [E2.out]
    exact ⟨rfl, H.out, Touch.refl _ _⟩
  · have e2 : x.fin = x.fail 13 := by unfold Ey.fin; rw [if_neg h0]
    have e1 : x.s.isEmpty = false := by cases hx : x.s with | nil => exact absurd hx h0 | cons a l => rfl
    have E2 := Lib.hid e2
    clear e2 h0
    go_wp2_with fail
    refine (ref_fail b x 13 w H.out).mono ?_
    rintro e w1 ⟨⟨v1, rfl⟩, q1, q2⟩
    obtain ⟨k0', k1', f0', f1'⟩ := q1.cells
    have Q1 := Lib.hid q1
    clear q1 k0 k1 f0 f1
    go_wp2_with fail
    go_ret
    rw [E2.out]
    exact ⟨rfl, Q1.out, q2⟩
set_option maxRecDepth 100000 in
set_option maxHeartbeats 2000000 in
theorem ref_fixed (b : Nat) (x : Ey) (n : Int) (w : World) (h : RefAt b x w) :
    Calls Try.prog 30 #[ptr b, .int .i64 n] w fun e w' => e = .returned (str (x.fixed n).1) ∧ RefAt b (x.fixed n).2 w' ∧ Touch (fun k => k = b) w w' := by
  obtain ⟨k0, k1, f0, f1⟩ := h.cells
  have H := Lib.hid h
  clear h
  go_enter Try.func30, Try.ntmps30
  by_cases h1 : x.e = 0
  · have e1 : (x.e != 0) = false := by simp [h1]
    by_cases h2 : n < 0
    · have e2 : decide (n < 0) = true := decide_eq_true h2
      have HX := Lib.hid (show x.fixed n = ([], x.fail 2) by unfold Ey.fixed; rw [if_neg (by simp [h1]), if_pos h2])
      clear h1 h2
      go_wp2_with fail
      refine (ref_fail b x 2 w H.out).mono ?_
      rintro e w2 ⟨⟨v2, rfl⟩, a1, a2⟩
      have A1 := Lib.hid a1
      clear a1
      go_wp2_with fail
      go_ret
      rw [HX.out]
      exact ⟨rfl, A1.out, a2⟩
    have e2 : decide (n < 0) = false := decide_eq_false h2
    by_cases h3 : (x.s.length : Int) < n
    · have e3 : decide ((x.s.length : Int) < n) = true := decide_eq_true h3
      have HX := Lib.hid (show x.fixed n = ([], x.fail 10) by unfold Ey.fixed; rw [if_neg (by simp [h1]), if_neg h2, if_pos h3])
      clear h1 h2 h3
      go_wp2_with fail
      refine (ref_fail b x 10 w H.out).mono ?_
      rintro e w2 ⟨⟨v2, rfl⟩, a1, a2⟩
      have A1 := Lib.hid a1
      clear a1
      go_wp2_with fail
      go_ret
      rw [HX.out]
      exact ⟨rfl, A1.out, a2⟩
    · obtain ⟨m, rfl⟩ : ∃ m : Nat, n = m := ⟨n.toNat, (Int.toNat_of_nonneg (by omega)).symm⟩
      have hm : m ≤ x.s.length := by omega
      have e3 : decide ((x.s.length : Int) < (m : Int)) = false := decide_eq_false h3
      have HX := Lib.hid (show x.fixed m = (x.s.take m, ⟨x.s.drop m, x.e⟩) by unfold Ey.fixed; rw [if_neg (by simp [h1]), if_neg h2, if_neg h3]; rfl)
      clear h1 h2 h3
      go_wp2_with fail
      go_ret
      rw [HX.out, ba_suf]
      refine ⟨congrArg (fun z => Ending.returned (Value.string z)) (ba_pre x.s m), (block_set _ H.out).trans rfl, ?_⟩
      exact (Touch.refl (fun k => k = b) w).set b 0 _ (.inl rfl)
  · have e1 : (x.e != 0) = true := by simp [h1]
    have HX := Lib.hid (show x.fixed n = ([], x) by unfold Ey.fixed; rw [if_pos h1])
    clear h1
    go_wp2_with fail
    go_ret
    rw [HX.out]
    exact ⟨rfl, H.out, Touch.refl _ _⟩
/-! ### A number, as the document reads it -/
theorem valB_inj : ∀ (k : Nat) (l m : List UInt8), l.length = k → m.length = k → valB l = valB m → l = m := by
  intro k
  induction k with
  | zero => intro l m hl hm _; rw [List.length_eq_zero_iff.1 hl, List.length_eq_zero_iff.1 hm]
  | succ k ih =>
    intro l m hl hm h
    have hl0 : l ≠ [] := by rintro rfl; simp at hl
    have hm0 : m ≠ [] := by rintro rfl; simp at hm
    rw [← List.dropLast_concat_getLast hl0, ← List.dropLast_concat_getLast hm0] at h ⊢
    rw [valB_snoc, valB_snoc] at h
    have h1 := (l.getLast hl0).toNat_lt
    have h2 := (m.getLast hm0).toNat_lt
    have e1 : valB l.dropLast = valB m.dropLast := by omega
    have e2 : (l.getLast hl0).toNat = (m.getLast hm0).toNat := by omega
    rw [ih l.dropLast m.dropLast (by simp; omega) (by simp; omega) e1, UInt8.toNat_inj.1 e2]
/-- The bytes of a number stand there where its size is right. -/
theorem num_is (c : UInt8) (t : List UInt8) (hc : ¬ c.toNat ≤ 247) (hl : c.toNat - 247 ≤ t.length) : (numN (valB (t.take (c.toNat - 247))) = c :: t.take (c.toNat - 247)) ↔ sizeN (valB (t.take (c.toNat - 247))) = c.toNat - 246 := by
  have hct := c.toNat_lt
  have htl : (t.take (c.toNat - 247)).length = c.toNat - 247 := by rw [List.length_take]; omega
  constructor
  · intro h
    have := congrArg List.length h
    rw [numN_length, List.length_cons, htl] at this
    omega
  · intro h
    generalize t.take (c.toNat - 247) = l at *
    have hs : ¬ valB l ≤ 247 := by
      intro hs
      unfold sizeN at h
      rw [if_pos hs] at h
      omega
    have hd : digits (valB l) = c.toNat - 247 := by unfold sizeN at h; rw [if_neg hs] at h; omega
    unfold numN
    rw [if_neg hs, hd]
    have e1 : UInt8.ofNat (247 + (c.toNat - 247)) = c := by
      apply UInt8.toNat_inj.1
      rw [UInt8.toNat_ofNat']; omega
    have e2 : beB (valB l) = l := valB_inj (c.toNat - 247) _ _ hd htl (valB_beB _)
    rw [e1, e2]
end Go.Proofs.Ytfmgkllnncibaaa
