/- Contracts of package pen: what the document answers.
   Conditions: those that each theorem names. -/
import Derived.Test.YtfmgkllnncibaaaG
import Derived.Lib.SmallJoins
namespace Go.Proofs.Ytfmgkllnncibaaa
set_option linter.unusedVariables false
set_option linter.unusedSimpArgs false
open Go.RowKit Go.Rg
attribute [local go_sem] Rg.q_add Rg.q_add' Rg.q_xor Rg.q_or Rg.q_and ba_app
theorem ref_zig (n : Int) (w : World) (hn : -9223372036854775808 ≤ n ∧ n ≤ 9223372036854775807) : Calls Try.prog 17 #[.int .i64 n] w fun e w' => e = .returned (.int .u64 (U (zigN n))) ∧ w = w' := by
  have hz : U (zigN n) = if n < 0 then 2 * (-(n + 1)) + 1 else 2 * n := by
    unfold zigN
    rw [U_nat _ (by split <;> omega)]
    split <;> omega
  go_enter Try.func17, Try.ntmps17
  by_cases h : n < 0
  · have e1 : decide (n < 0) = true := decide_eq_true h
    rw [if_pos h] at hz
    go_wp2_with fail
    go_ret
    first | exact ⟨rfl, rfl⟩ | exact ⟨congrArg (fun z => Ending.returned (Value.int .u64 z)) hz.symm, rfl⟩
  · have e1 : decide (n < 0) = false := decide_eq_false h
    rw [if_neg h] at hz
    go_wp2_with fail
    go_ret
    first | exact ⟨rfl, rfl⟩ | exact ⟨congrArg (fun z => Ending.returned (Value.int .u64 z)) hz.symm, rfl⟩
theorem ref_zag (u : UInt64) (w : World) : Calls Try.prog 19 #[.int .u64 (U u)] w fun e w' => e = .returned (.int .i64 (zagN u)) ∧ w = w' := by
  have hU : U u / 2 = ((u.toNat / 2 : Nat) : Int) := by unfold U; omega
  have hm : U u % 2 = ((u.toNat % 2 : Nat) : Int) := by unfold U; omega
  have hlt := u.toNat_lt
  have t0 : (U u).tdiv 2 = U u / 2 := Int.tdiv_eq_ediv_of_nonneg (U_nonneg u)
  have m0 : (U u).tmod 2 = U u % 2 := Int.tmod_eq_emod_of_nonneg (U_nonneg u)
  have t1 : IntKind.u64.wrap (U u / 2) = U u / 2 := by rw [wrap_u64, hU]; omega
  have t2 : wrap64 (U u / 2) = U u / 2 := by rw [hU]; unfold wrap64; omega
  have t3 : wrap64 (-(U u / 2)) = -(U u / 2) := by rw [hU]; unfold wrap64; omega
  have t4 : wrap64 (-(U u / 2) - 1) = -(U u / 2) - 1 := by rw [hU]; unfold wrap64; omega
  go_enter Try.func19, Try.ntmps19
  by_cases h : u.toNat % 2 = 1
  · have b2 : (U u % 2 == 1) = true := by rw [hm, h]; rfl
    have x2 : -(U u / 2) - 1 = zagN u := by unfold zagN; rw [if_pos h, hU]
    have X2 := Lib.hid x2
    clear hU hm h x2
    go_wp2_with fail
    go_ret
    exact ⟨congrArg (fun z => Ending.returned (Value.int .i64 z)) (t4.trans X2.out), rfl⟩
  · have b2 : (U u % 2 == 1) = false := by rw [hm, show u.toNat % 2 = 0 by omega]; rfl
    have x2 : U u / 2 = zagN u := by unfold zagN; rw [if_neg h, hU]
    have X2 := Lib.hid x2
    clear hU hm h x2
    go_wp2_with fail
    go_ret
    exact ⟨congrArg (fun z => Ending.returned (Value.int .i64 z)) (t2.trans X2.out), rfl⟩
set_option maxRecDepth 100000 in
theorem ref_number (u : UInt64) (w : World) : Calls Try.prog 21 #[.int .u64 (U u)] w fun e w' => e = .returned (str (numN u.toNat)) ∧ Below w.heap.size w w' := by
  have hlt := u.toNat_lt
  go_enter Try.func21, Try.ntmps21
  by_cases hs : u.toNat ≤ 247
  · have e1 : decide (U u ≤ 247) = true := decide_eq_true (by unfold U; omega)
    obtain ⟨c, hc⟩ : ∃ c, c = UInt8.ofNat u.toNat := ⟨_, rfl⟩
    have e2 : IntKind.u8.wrap (U u) = (c.toNat : Int) := by rw [hc, IntKind.wrap_u8]; unfold U; simp
    have e3 : numN u.toNat = [c] := by unfold numN; rw [if_pos hs, hc]
    have hcv := conv_one c w
    have E3 := Lib.hid e3
    clear hc hs e3
    go_wp2_with fail
    go_ret
    rw [E3.out]
    exact ⟨rfl, (Below.refl _ _).alloc (Nat.le_refl _) _⟩
  · have e1 : decide (U u ≤ 247) = false := decide_eq_false (by unfold U; omega)
    have HS := Lib.hid hs
    clear hs
    go_wp2_with fail
    go_loopw [0, 3] (fun v s wr => ∃ (x : UInt64) (l : List UInt8), v = .int .u64 (U x) ∧ s = str l ∧ Hid (beB u.toNat = beB x.toNat ++ l) ∧ Below w.heap.size w wr) (fun v _ _ => (intOf v).toNat)
    case atStart => exact ⟨u, [], rfl, rfl, Lib.hid (by simp), Below.refl _ _⟩
    case round =>
      obtain ⟨x, l, rfl, rfl, HB, hB⟩ := hrel
      have hd8 := digits_lt 8 u.toNat (by omega)
      have hl8 : l.length ≤ 8 := by
        have := HB.out
        unfold digits at hd8
        rw [this, List.length_append] at hd8
        omega
      by_cases h0 : x.toNat = 0
      · have e2 : decide (0 < U x) = false := decide_eq_false (by unfold U; omega)
        have e3 : numN u.toNat = UInt8.ofNat (247 + l.length) :: l := by
          have := HB.out
          rw [h0, beB_zero, List.nil_append] at this
          unfold numN digits
          rw [if_neg HS.out, this]
        have E3 := Lib.hid e3
        obtain ⟨c, hc⟩ : ∃ c, c = UInt8.ofNat (247 + l.length) := ⟨_, rfl⟩
        have e4 : IntKind.u8.wrap (247 + (l.length : Int)) = (c.toNat : Int) := by rw [hc, IntKind.wrap_u8, UInt8.toNat_ofNat']; omega
        have HC := Lib.hid hc
        have hcv := conv_one c wr
        have hle := len_ok [c] l (by simp; omega)
        clear e3 h0 hc hd8
        go_wp2_with fail
        go_ret
        rw [E3.out, ← HC.out]
        exact ⟨rfl, hB.alloc hB.size _⟩
      · have e2 : decide (0 < U x) = true := decide_eq_true (by unfold U; omega)
        obtain ⟨c, hc⟩ : ∃ c, c = UInt8.ofNat (x.toNat % 256) := ⟨_, rfl⟩
        have hx := x.toNat_lt
        have t0 : (U x).tdiv 256 = U (x / 256) := by
          rw [Int.tdiv_eq_ediv_of_nonneg (U_nonneg x)]; unfold U; rw [UInt64.toNat_div]; rfl
        have t1 : IntKind.u64.wrap (U (x / 256)) = U (x / 256) := by
          have := U_nonneg (x / 256); have := U_lt (x / 256); rw [wrap_u64]; omega
        have m0 : IntKind.u8.wrap ((U x).tmod 256) = (c.toNat : Int) := by
          rw [Int.tmod_eq_emod_of_nonneg (U_nonneg x), hc, IntKind.wrap_u8, UInt8.toNat_ofNat']; unfold U; omega
        have m1 : IntKind.u64.wrap ((U x).tmod 256) = (U x).tmod 256 := by
          rw [Int.tmod_eq_emod_of_nonneg (U_nonneg x), wrap_u64]; unfold U; omega
        have HB2 := Lib.hid (show beB u.toNat = beB (x / 256).toNat ++ (c :: l) by
          have := HB.out
          rw [beB_pos _ h0] at this
          rw [this, UInt64.toNat_div, hc, show (256 : UInt64).toNat = 256 from rfl]; simp)
        have hcv := conv_one c wr
        have hle := len_ok [c] l (by simp; omega)
        have hlt' : (x / 256).toNat < x.toNat := by rw [UInt64.toNat_div, show (256 : UInt64).toNat = 256 from rfl]; omega
        clear hc h0 hd8 HB
        go_wp2_with fail
        refine ⟨⟨x / 256, c :: l, rfl, rfl, HB2, hB.alloc hB.size _⟩, ?_⟩
        simp only [intOf]; unfold U; omega
theorem ref_text (l : List UInt8) (w : World) (hn : l.length ≤ 100000000) : Calls Try.prog 37 #[str l] w fun e w' => e = .returned (str (numN l.length ++ l)) ∧ Below w.heap.size w w' := by
  have e1 : IntKind.u64.wrap (l.length : Int) = U (UInt64.ofNat l.length) := by rw [wrap_u64, U_nat _ (by omega)]; omega
  have hu : (UInt64.ofNat l.length).toNat = l.length := by rw [UInt64.toNat_ofNat', Nat.mod_eq_of_lt (by omega)]
  have hs := numN_length l.length
  have hs9 : sizeN l.length ≤ 9 := by unfold sizeN; split; omega; have := digits_lt 8 l.length (by omega); omega
  go_enter Try.func37, Try.ntmps37
  go_wp2_with fail
  refine (ref_number _ w).mono ?_
  rintro e w1 ⟨rfl, hB⟩
  rw [hu]
  have hle := len_ok (numN l.length) l (by omega)
  clear hu hs
  go_wp2_with fail
  go_ret
  exact ⟨rfl, hB⟩
end Go.Proofs.Ytfmgkllnncibaaa
