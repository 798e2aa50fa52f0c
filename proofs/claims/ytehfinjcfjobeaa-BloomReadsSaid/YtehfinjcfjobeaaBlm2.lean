/- Filters read: Get.
   Conditions: those that each theorem names. -/
import Derived.Test.YtehfinjcfjobeaaBlmX
import Derived.Test.YtehfinjcfjobeaaPq
namespace Go.Proofs.Ytehfinjcfjobeaa
set_option maxRecDepth 100000
set_option linter.unusedVariables false
set_option linter.unusedSimpArgs false
open Go.RowKit Go.Rg
set_option linter.unusedVariables false
variable {lo : Nat}
def Ey.flt (x : Ey) : List UInt8 × Ey :=
  (if (x.number 1024).2.e = 0 ∧ (x.number 1024).1 < 8 then (x.number 1024).2.fail 11 else (x.number 1024).2).fixed ((x.number 1024).1 : Int)
theorem Ey.number_le (x : Ey) (most : UInt64) : (x.number most).1 ≤ most.toNat := by
  unfold Ey.number
  split
  · exact Nat.zero_le _
  · split
    · exact Nat.zero_le _
    · split
      · exact Nat.zero_le _
      · dsimp only; omega
set_option maxHeartbeats 2000000 in
theorem bget_any (b : Nat) (x : Ey) (w : World) (h : EyeAt lo b x w) (hn : x.s.length ≤ 1000000000) :
    Calls Try.prog 25 #[ptr b] w fun e w' => ∃ v, e = .returned v ∧ (x.flt.2.e ≠ 0 → v = .pointer none) ∧ (x.flt.2.e = 0 → ∃ k vf, v = ptr k ∧ FltAt k vf x.flt.1 w' ∧ w.heap.size ≤ k ∧ ∀ g, vf.ownBlock = some g → w.heap.size ≤ g) ∧ EyeAt lo b x.flt.2 w' ∧ Touch (fun k => k = b) w w' := by
  have hle := x.number_le 1024
  have hyl := Ey.number_len x 1024
  have k1 : Calls Try.prog 39 #[ptr b, .int .u64 1024] w _ := eye_number b x 1024 w h hn
  obtain ⟨n, hn0⟩ : ∃ n, (x.number 1024).1 = n := ⟨_, rfl⟩
  obtain ⟨y, hm⟩ : ∃ y, (x.number 1024).2 = y := ⟨_, rfl⟩
  rw [hn0] at hle k1
  rw [hm] at hyl k1
  have hle2 : n ≤ 1024 := hle
  have hU : U (UInt64.ofNat n) = (n : Int) := by unfold U; rw [UInt64.toNat_ofNat', Nat.mod_eq_of_lt (by omega)]
  rw [hU] at k1
  have n0 : (0 : Int) ≤ (n : Int) := Int.natCast_nonneg _
  have n1 : (n : Int) ≤ 1024 := by omega
  replace k1 := Lib.hid k1
  replace hn0 := Lib.hid hn0
  replace hm := Lib.hid hm
  clear h hU hle
  go_enter Try.func25, Try.ntmps25
  go_wp2_with fail
  refine k1.out.mono ?_
  rintro e w2 ⟨rfl, hE2, hT2⟩
  have k2 := err_any b y w2 hE2
  by_cases hc : y.e = 0 ∧ n < 8
  · obtain ⟨hy0, hn8⟩ := hc
    have e1 : (y.e == 0) = true := by simp [hy0]
    have e2 : decide ((n : Int) < 8) = true := decide_eq_true (by omega)
    have e2n : decide (n < 8) = true := decide_eq_true hn8
    have k3 := fail_any b y 11 w2 hE2
    have hcond : (if y.e = 0 ∧ n < 8 then y.fail 11 else y) = y.fail 11 := if_pos ⟨hy0, hn8⟩
    have hYl := Nat.le_trans (Ey.fail_len y 11) (Nat.le_trans hyl hn)
    replace k2 := Lib.hid k2
    replace k3 := Lib.hid k3
    replace hy0 := Lib.hid hy0
    replace hn8 := Lib.hid hn8
    replace hT2 := Lib.hid hT2
    replace hcond := Lib.hid hcond
    clear hE2
    go_wp2_with fail
    refine k2.out.mono ?_
    rintro e w' ⟨rfl, rfl⟩
    go_wp2_with fail
    refine k3.out.mono ?_
    rintro e w3 ⟨⟨u, rfl⟩, hY, hT⟩
    have hT3 := hT2.out.trans hT (fun _ _ h => h)
    replace hY := Lib.hid hY
    replace hT3 := Lib.hid hT3
    clear hT hT2 k2 k3 k1
    obtain ⟨Y, hYe⟩ : ∃ Y, y.fail 11 = Y := ⟨_, rfl⟩
    rw [hYe] at hY hYl
    go_wp2_with fail
    refine (eye_fixed b Y (n : Int) w3 hY.out (by have := hYl; omega)).mono ?_
    rintro e w4 ⟨vf, rfl, hO, hfr, hE4, hT4⟩
    obtain ⟨pf, cf, rfl, hlcf, _, _⟩ := hO.shape
    have hTT := hT3.out.trans hT4 (fun _ _ h => h)
    have hfr2 : ∀ g, (Value.slice pf (Y.fixed (n : Int)).1.length cf).ownBlock = some g → w.heap.size ≤ g := fun g hg => Nat.le_trans hT3.out.size (hfr g hg)
    replace hO := Lib.hid hO
    replace hTT := Lib.hid hTT
    replace hfr2 := Lib.hid hfr2
    clear hfr hT4
    obtain ⟨R, hR⟩ : ∃ R, Y.fixed (n : Int) = R := ⟨_, rfl⟩
    rw [hR] at hE4 hO hfr2 ⊢
    have hxf : x.flt = R := by rw [← hR]; unfold Ey.flt; rw [hn0.out, hm.out, hcond.out, hYe]
    clear hR
    by_cases hre : R.2.e = 0
    · have e4 : (R.2.e != 0) = false := by simp [hre]
      have k4 := err_any b R.2 w4 hE4
      replace hre := Lib.hid hre
      replace hE4 := Lib.hid hE4
      replace k4 := Lib.hid k4
      replace hxf := Lib.hid hxf
      go_wp2_with fail
      refine k4.out.mono ?_
      rintro e w' ⟨rfl, rfl⟩
      go_wp2_with fail
      go_ret
      have hBa : Below w4.heap.size w4 (w4.alloc (.cells #[.slice pf R.1.length cf] 60)) := (Below.refl _ _).alloc (Nat.le_refl _) _
      refine ⟨_, rfl, fun h => absurd (hxf.out ▸ hre.out) h, fun _ => ⟨w4.heap.size, .slice pf R.1.length cf, rfl, ?_, ?_, ?_⟩, ?_, ?_⟩
      · rw [hxf.out]; exact ⟨World.alloc_heap_new _ _, hO.out.kept (fun g hg => hBa.block g (hO.out.lt hg))⟩
      · exact hTT.out.size
      · exact hfr2.out
      · rw [hxf.out]; exact hE4.out.below hBa
      · exact hTT.out.trans (Touch.of_below (M := fun k => k = b) hBa) (fun _ _ h => h)
    · have e4 : (R.2.e != 0) = true := by simp [hre]
      have k4 := err_any b R.2 w4 hE4
      replace hre := Lib.hid hre
      replace hE4 := Lib.hid hE4
      replace k4 := Lib.hid k4
      replace hxf := Lib.hid hxf
      go_wp2_with fail
      refine k4.out.mono ?_
      rintro e w' ⟨rfl, rfl⟩
      go_wp2_with fail
      go_ret
      exact ⟨_, rfl, fun _ => rfl, fun h => absurd (hxf.out ▸ h) hre.out, by rw [hxf.out]; exact hE4.out, hTT.out⟩
  · have hcond : (if y.e = 0 ∧ n < 8 then y.fail 11 else y) = y := if_neg hc
    have hYl := Nat.le_trans hyl hn
    obtain ⟨Y, hYe⟩ : ∃ Y, y = Y := ⟨_, rfl⟩
    have hgo : (y.e == 0) = false ∨ ((y.e == 0) = true ∧ decide ((n : Int) < 8) = false ∧ decide (n < 8) = false) := by
      by_cases h0 : y.e = 0
      · exact .inr ⟨by simp [h0], decide_eq_false (fun h => hc ⟨h0, by omega⟩), decide_eq_false (fun h => hc ⟨h0, h⟩)⟩
      · exact .inl (by simp [h0])
    have hY := hE2
    rw [hYe] at hY hYl
    have hT3 := hT2
    have w3 := w2
    replace k2 := Lib.hid k2
    replace hT3 := Lib.hid hT3
    replace hcond := Lib.hid hcond
    replace hY := Lib.hid hY
    replace hYe := Lib.hid hYe
    clear hE2 hT2 hc k1 w3
    rcases hgo with e1 | ⟨e1, e2, e2n⟩
    · go_wp2_with fail
      refine k2.out.mono ?_
      rintro e w3 ⟨rfl, rfl⟩
      go_wp2_with fail
      clear k2
      refine (eye_fixed b Y (n : Int) _ hY.out (by have := hYl; omega)).mono ?_
      rintro e w4 ⟨vf, rfl, hO, hfr, hE4, hT4⟩
      obtain ⟨pf, cf, rfl, hlcf, _, _⟩ := hO.shape
      have hTT := hT3.out.trans hT4 (fun _ _ h => h)
      have hfr2 : ∀ g, (Value.slice pf (Y.fixed (n : Int)).1.length cf).ownBlock = some g → w.heap.size ≤ g := fun g hg => Nat.le_trans hT3.out.size (hfr g hg)
      replace hO := Lib.hid hO
      replace hTT := Lib.hid hTT
      replace hfr2 := Lib.hid hfr2
      clear hfr hT4
      obtain ⟨R, hR⟩ : ∃ R, Y.fixed (n : Int) = R := ⟨_, rfl⟩
      rw [hR] at hE4 hO hfr2 ⊢
      have hxf : x.flt = R := by rw [← hR]; unfold Ey.flt; rw [hn0.out, hm.out, hcond.out, hYe.out]
      clear hR
      by_cases hre : R.2.e = 0
      · have e4 : (R.2.e != 0) = false := by simp [hre]
        have k4 := err_any b R.2 w4 hE4
        replace hre := Lib.hid hre
        replace hE4 := Lib.hid hE4
        replace k4 := Lib.hid k4
        replace hxf := Lib.hid hxf
        go_wp2_with fail
        refine k4.out.mono ?_
        rintro e w' ⟨rfl, rfl⟩
        go_wp2_with fail
        go_ret
        have hBa : Below w4.heap.size w4 (w4.alloc (.cells #[.slice pf R.1.length cf] 60)) := (Below.refl _ _).alloc (Nat.le_refl _) _
        refine ⟨_, rfl, fun h => absurd (hxf.out ▸ hre.out) h, fun _ => ⟨w4.heap.size, .slice pf R.1.length cf, rfl, ?_, ?_, ?_⟩, ?_, ?_⟩
        · rw [hxf.out]; exact ⟨World.alloc_heap_new _ _, hO.out.kept (fun g hg => hBa.block g (hO.out.lt hg))⟩
        · exact hTT.out.size
        · exact hfr2.out
        · rw [hxf.out]; exact hE4.out.below hBa
        · exact hTT.out.trans (Touch.of_below (M := fun k => k = b) hBa) (fun _ _ h => h)
      · have e4 : (R.2.e != 0) = true := by simp [hre]
        have k4 := err_any b R.2 w4 hE4
        replace hre := Lib.hid hre
        replace hE4 := Lib.hid hE4
        replace k4 := Lib.hid k4
        replace hxf := Lib.hid hxf
        go_wp2_with fail
        refine k4.out.mono ?_
        rintro e w' ⟨rfl, rfl⟩
        go_wp2_with fail
        go_ret
        exact ⟨_, rfl, fun _ => rfl, fun h => absurd (hxf.out ▸ h) hre.out, by rw [hxf.out]; exact hE4.out, hTT.out⟩
    · go_wp2_with fail
      refine k2.out.mono ?_
      rintro e w3 ⟨rfl, rfl⟩
      go_wp2_with fail
      clear k2
      refine (eye_fixed b Y (n : Int) _ hY.out (by have := hYl; omega)).mono ?_
      rintro e w4 ⟨vf, rfl, hO, hfr, hE4, hT4⟩
      obtain ⟨pf, cf, rfl, hlcf, _, _⟩ := hO.shape
      have hTT := hT3.out.trans hT4 (fun _ _ h => h)
      have hfr2 : ∀ g, (Value.slice pf (Y.fixed (n : Int)).1.length cf).ownBlock = some g → w.heap.size ≤ g := fun g hg => Nat.le_trans hT3.out.size (hfr g hg)
      replace hO := Lib.hid hO
      replace hTT := Lib.hid hTT
      replace hfr2 := Lib.hid hfr2
      clear hfr hT4
      obtain ⟨R, hR⟩ : ∃ R, Y.fixed (n : Int) = R := ⟨_, rfl⟩
      rw [hR] at hE4 hO hfr2 ⊢
      have hxf : x.flt = R := by rw [← hR]; unfold Ey.flt; rw [hn0.out, hm.out, hcond.out, hYe.out]
      clear hR
      by_cases hre : R.2.e = 0
      · have e4 : (R.2.e != 0) = false := by simp [hre]
        have k4 := err_any b R.2 w4 hE4
        replace hre := Lib.hid hre
        replace hE4 := Lib.hid hE4
        replace k4 := Lib.hid k4
        replace hxf := Lib.hid hxf
        go_wp2_with fail
        refine k4.out.mono ?_
        rintro e w' ⟨rfl, rfl⟩
        go_wp2_with fail
        go_ret
        have hBa : Below w4.heap.size w4 (w4.alloc (.cells #[.slice pf R.1.length cf] 60)) := (Below.refl _ _).alloc (Nat.le_refl _) _
        refine ⟨_, rfl, fun h => absurd (hxf.out ▸ hre.out) h, fun _ => ⟨w4.heap.size, .slice pf R.1.length cf, rfl, ?_, ?_, ?_⟩, ?_, ?_⟩
        · rw [hxf.out]; exact ⟨World.alloc_heap_new _ _, hO.out.kept (fun g hg => hBa.block g (hO.out.lt hg))⟩
        · exact hTT.out.size
        · exact hfr2.out
        · rw [hxf.out]; exact hE4.out.below hBa
        · exact hTT.out.trans (Touch.of_below (M := fun k => k = b) hBa) (fun _ _ h => h)
      · have e4 : (R.2.e != 0) = true := by simp [hre]
        have k4 := err_any b R.2 w4 hE4
        replace hre := Lib.hid hre
        replace hE4 := Lib.hid hE4
        replace k4 := Lib.hid k4
        replace hxf := Lib.hid hxf
        go_wp2_with fail
        refine k4.out.mono ?_
        rintro e w' ⟨rfl, rfl⟩
        go_wp2_with fail
        go_ret
        exact ⟨_, rfl, fun _ => rfl, fun h => absurd (hxf.out ▸ h) hre.out, by rw [hxf.out]; exact hE4.out, hTT.out⟩
end Go.Proofs.Ytehfinjcfjobeaa
