/- Contracts of package pen: what an eye reads, more.
   Conditions: those that each theorem names. -/
import Derived.Test.YtehfinjcfjobeaaPenE
namespace Go.Proofs.Ytehfinjcfjobeaa
set_option maxRecDepth 100000
set_option linter.unusedVariables false
set_option linter.unusedSimpArgs false
set_option linter.unusedVariables false
set_option linter.unusedSimpArgs false
open Go.RowKit Go.Rg
variable {lo : Nat}
attribute [local go_sem] Rg.q_add Rg.q_add' Rg.q_xor Rg.q_or Rg.q_and ba_app
def Ey.number (x : Ey) (most : UInt64) : Nat × Ey :=
  if x.e ≠ 0 then (0, x)
  else if (parse x.s).2.2 ≠ 0 then (0, x.fail ((parse x.s).2.2 : Int))
  else if most.toNat < (parse x.s).1 then (0, x.fail 12)
  else ((parse x.s).1, ⟨x.s.drop (parse x.s).2.1, 0⟩)
theorem Ey.number_lt (x : Ey) (most : UInt64) : (x.number most).1 < 18446744073709551616 := by
  unfold Ey.number
  split
  · exact (by omega : 0 < 18446744073709551616)
  · split
    · exact (by omega : 0 < 18446744073709551616)
    · split
      · exact (by omega : 0 < 18446744073709551616)
      · exact (parse_lt x.s).1
theorem Ey.fail_len (x : Ey) (f : Int) : (x.fail f).s.length ≤ x.s.length := by
  unfold Ey.fail; split <;> simp
theorem Ey.number_len (x : Ey) (most : UInt64) : (x.number most).2.s.length ≤ x.s.length := by
  unfold Ey.number
  split
  · exact Nat.le_refl _
  · split
    · exact Ey.fail_len _ _
    · split
      · exact Ey.fail_len _ _
      · simp
theorem eye_capped {x : Ey} {p : Option Addr} {cap : Nat} (h : x.s.length ≤ cap) : ∀ q n c, Value.slice p x.s.length cap = .slice q n c → x.s.length ≤ c := by
  intro q n c e; cases e; exact h

set_option maxRecDepth 100000 in
set_option maxHeartbeats 2000000 in
theorem eye_number (b : Nat) (x : Ey) (most : UInt64) (w : World) (h : EyeAt lo b x w) (hn : x.s.length ≤ 1000000000) :
    Calls Try.prog 39 #[ptr b, .int .u64 (U most)] w fun e w' => e = .returned (.int .u64 (U (UInt64.ofNat (x.number most).1))) ∧ EyeAt lo b (x.number most).2 w' ∧ Touch (fun k => k = b) w w' := by
  obtain ⟨p, cap, k0, k1, f0, f1, hc, hb, hh, hp⟩ := h.cells
  have H := Lib.hid h
  have HB := Lib.hid hb
  clear h hh f0 f1 hp hb
  go_enter Try.func39, Try.ntmps39
  by_cases h1 : x.e = 0
  · have e1 : (x.e != 0) = false := by simp [h1]
    have hx : x.number most = if (parse x.s).2.2 ≠ 0 then (0, x.fail ((parse x.s).2.2 : Int)) else if most.toNat < (parse x.s).1 then (0, x.fail 12) else ((parse x.s).1, ⟨x.s.drop (parse x.s).2.1, 0⟩) := by
      unfold Ey.number; rw [if_neg (by simp [h1])]
    have HX := Lib.hid hx
    have H1 := Lib.hid h1
    clear hx h1
    go_wp2_with fail
    refine (parse_any _ x.s w HB.out (eye_capped hc) hn).mono ?_
    rintro e w1 ⟨rfl, rfl⟩
    obtain ⟨q1, q2, q3⟩ := parse_lt x.s
    generalize parse x.s = r at *
    obtain ⟨u, n, f⟩ := r
    dsimp only at q1 q2 q3 HX ⊢
    have E1 := U_nat u q1
    by_cases h2 : f = 0
    · subst h2
      by_cases h3 : most.toNat < u
      · have e2 : decide (U most < U (UInt64.ofNat u)) = true := decide_eq_true (by rw [E1]; unfold U; omega)
        have HX2 := Lib.hid (show x.number most = (0, x.fail 12) by rw [HX.out, if_neg (by simp), if_pos h3])
        clear E1 h3 HX
        go_wp2_with fail
        refine (fail_any b x 12 w H.out).mono ?_
        rintro e w2 ⟨⟨v2, rfl⟩, a1, a2⟩
        have A1 := Lib.hid a1
        clear a1
        go_wp2_with fail
        go_ret
        rw [HX2.out]
        exact ⟨rfl, A1.out, a2⟩
      · have e2 : decide (U most < U (UInt64.ofNat u)) = false := decide_eq_false (by rw [E1]; unfold U; omega)
        have HX2 := Lib.hid (show x.number most = (u, ⟨x.s.drop n, 0⟩) by rw [HX.out, if_neg (by simp), if_neg h3])
        clear E1 h3 HX
        go_wp2_with fail
        refine (eye_take b n x w H.out q2).mono ?_
        rintro e w2 ⟨⟨v2, rfl, _⟩, a1, a2⟩
        rw [H1.out] at a1
        have A1 := Lib.hid a1
        clear a1
        go_wp2_with fail
        go_ret
        rw [HX2.out]
        exact ⟨rfl, A1.out, a2⟩
    · have e2 : ((f : Int) == 0) = false := by simp; omega
      have e3 : ((f : Int) != 0) = true := by simp; omega
      have HX2 := Lib.hid (show x.number most = (0, x.fail (f : Int)) by rw [HX.out, if_pos h2])
      clear E1 HX h2 q3
      go_wp2_with fail
      refine (fail_any b x f w H.out).mono ?_
      rintro e w2 ⟨⟨v2, rfl⟩, a1, a2⟩
      have A1 := Lib.hid a1
      clear a1
      go_wp2_with fail
      go_ret
      rw [HX2.out]
      exact ⟨rfl, A1.out, a2⟩
  · have e1 : (x.e != 0) = true := by simp [h1]
    have HX := Lib.hid (show x.number most = (0, x) by unfold Ey.number; rw [if_pos h1])
    clear h1
    go_wp2_with fail
    go_ret
    rw [HX.out]
    exact ⟨rfl, H.out, Touch.refl _ _⟩
def Ey.fixed (x : Ey) (n : Int) : List UInt8 × Ey :=
  if x.e ≠ 0 then ([], x) else if n < 0 then ([], x.fail 2) else if (x.s.length : Int) < n then ([], x.fail 10) else (x.s.take n.toNat, ⟨x.s.drop n.toNat, x.e⟩)
theorem Ey.fixed_len (x : Ey) (n : Int) : (x.fixed n).1.length ≤ x.s.length ∧ (x.fixed n).2.s.length ≤ x.s.length := by
  unfold Ey.fixed
  split
  · simp
  · split
    · exact ⟨Nat.zero_le _, Ey.fail_len _ _⟩
    · split
      · exact ⟨Nat.zero_le _, Ey.fail_len _ _⟩
      · simp; omega
set_option maxRecDepth 100000 in
set_option maxHeartbeats 2000000 in
theorem eye_fixed (b : Nat) (x : Ey) (n : Int) (w : World) (h : EyeAt lo b x w) (hn : x.s.length ≤ 1000000000) :
    Calls Try.prog 41 #[ptr b, .int .i64 n] w fun e w' => ∃ v, e = .returned v ∧ OwnB w' v (x.fixed n).1 ∧ (∀ k, v.ownBlock = some k → w.heap.size ≤ k) ∧ EyeAt lo b (x.fixed n).2 w' ∧ Touch (fun k => k = b) w w' := by
  obtain ⟨p, cap, k0, k1, f0, f1, hc, hb, hh, hp⟩ := h.cells
  have H := Lib.hid h
  clear h hh f0 f1 hp hb
  go_enter Try.func41, Try.ntmps41
  by_cases h1 : x.e = 0
  · have e1 : (x.e != 0) = false := by simp [h1]
    by_cases h2 : n < 0
    · have e2 : decide (n < 0) = true := decide_eq_true h2
      have HX := Lib.hid (show x.fixed n = ([], x.fail 2) by unfold Ey.fixed; rw [if_neg (by simp [h1]), if_pos h2])
      clear h1 h2
      go_wp2_with fail
      refine (fail_any b x 2 w H.out).mono ?_
      rintro e w2 ⟨⟨v2, rfl⟩, a1, a2⟩
      have A1 := Lib.hid a1
      clear a1
      go_wp2_with fail
      go_ret
      rw [HX.out]
      refine ⟨.slice none 0 0, rfl, OwnB.nil _, ?_, A1.out, a2⟩
      intro k hk
      simp [Value.ownBlock] at hk
    have e2 : decide (n < 0) = false := decide_eq_false h2
    by_cases h3 : (x.s.length : Int) < n
    · have e3 : decide ((x.s.length : Int) < n) = true := decide_eq_true h3
      have HX := Lib.hid (show x.fixed n = ([], x.fail 10) by unfold Ey.fixed; rw [if_neg (by simp [h1]), if_neg h2, if_pos h3])
      clear h1 h2 h3
      go_wp2_with fail
      refine (fail_any b x 10 w H.out).mono ?_
      rintro e w2 ⟨⟨v2, rfl⟩, a1, a2⟩
      have A1 := Lib.hid a1
      clear a1
      go_wp2_with fail
      go_ret
      rw [HX.out]
      refine ⟨.slice none 0 0, rfl, OwnB.nil _, ?_, A1.out, a2⟩
      intro k hk
      simp [Value.ownBlock] at hk
    · obtain ⟨m, rfl⟩ : ∃ m : Nat, n = m := ⟨n.toNat, (Int.toNat_of_nonneg (by omega)).symm⟩
      have hm : m ≤ x.s.length := by omega
      have e3 : decide ((x.s.length : Int) < (m : Int)) = false := decide_eq_false h3
      have HX := Lib.hid (show x.fixed m = (x.s.take m, ⟨x.s.drop m, x.e⟩) by unfold Ey.fixed; rw [if_neg (by simp [h1]), if_neg h2, if_neg h3]; rfl)
      clear h1 h2 h3
      go_wp2_with fail
      refine (eye_take b m x w H.out hm).mono ?_
      rintro e w2 ⟨⟨v2, rfl, q2⟩, a1, a2⟩
      have A1 := Lib.hid a1
      have Q2 := Lib.hid q2
      clear a1 q2
      go_wp2_with fail
      refine (bytes_clone v2 _ w2 Q2.out (by simp; omega)).mono ?_
      rintro e w3 ⟨v3, rfl, c1, c2, c3⟩
      have C1 := Lib.hid c1
      have C2 := Lib.hid c2
      clear c1 c2
      go_wp2_with fail
      go_ret
      rw [HX.out]
      exact ⟨v3, rfl, C1.out, fun k hk => Nat.le_trans a2.size (C2.out k hk), A1.out.below c3, a2.trans (M' := fun k => k = b) (Touch.of_below c3) (fun _ _ h => h)⟩
  · have e1 : (x.e != 0) = true := by simp [h1]
    have HX := Lib.hid (show x.fixed n = ([], x) by unfold Ey.fixed; rw [if_pos h1])
    clear h1
    go_wp2_with fail
    go_ret
    rw [HX.out]
    refine ⟨.slice none 0 0, rfl, OwnB.nil _, ?_, H.out, Touch.refl _ _⟩
    intro k hk
    simp [Value.ownBlock] at hk
def Ey.text (x : Ey) (most : Int) : List UInt8 × Ey :=
  let r := x.number 18446744073709551615
  if r.2.e ≠ 0 then ([], r.2) else if most < 0 ∨ most < (r.1 : Int) then ([], r.2.fail 12) else r.2.fixed (r.1 : Int)
theorem Ey.text_len (x : Ey) (n : Int) : (x.text n).1.length ≤ x.s.length ∧ (x.text n).2.s.length ≤ x.s.length := by
  have h := Ey.number_len x 18446744073709551615
  unfold Ey.text
  dsimp only
  split
  · exact ⟨Nat.zero_le _, h⟩
  · split
    · exact ⟨Nat.zero_le _, Nat.le_trans (Ey.fail_len _ _) h⟩
    · have := Ey.fixed_len (x.number 18446744073709551615).2 ((x.number 18446744073709551615).1 : Int)
      omega
theorem eye_number_nil (v : Value) (w : World) : Calls Try.prog 39 #[.pointer none, v] w fun e w' => e = .returned (.int .u64 0) ∧ w = w' := by
  go_enter Try.func39, Try.ntmps39
  go_wp2_with fail
  go_ret
  exact ⟨rfl, rfl⟩
theorem eye_fixed_nil (v : Value) (w : World) : Calls Try.prog 41 #[.pointer none, v] w fun e w' => e = .returned (.slice none 0 0) ∧ w = w' := by
  go_enter Try.func41, Try.ntmps41
  go_wp2_with fail
  go_ret
  exact ⟨rfl, rfl⟩
theorem left_nil (w : World) : Calls Try.prog 28 #[.pointer none] w fun e w' => e = .returned (.int .i64 0) ∧ w = w' := by
  go_enter Try.func28, Try.ntmps28
  go_wp2_with fail
  go_ret
  exact ⟨rfl, rfl⟩
theorem err_nil (w : World) : Calls Try.prog 27 #[.pointer none] w fun e w' => e = .returned (.int .i64 1) ∧ w = w' := by
  go_enter Try.func27, Try.ntmps27
  go_wp2_with fail
  go_ret
  exact ⟨rfl, rfl⟩
theorem fail_nil (v : Value) (w : World) : Calls Try.prog 40 #[.pointer none, v] w fun e w' => (∃ v, e = .returned v) ∧ w = w' := by
  go_enter Try.func40, Try.ntmps40
  go_wp2_with fail
  go_end0
  exact ⟨⟨_, rfl⟩, rfl⟩
end Go.Proofs.Ytehfinjcfjobeaa
