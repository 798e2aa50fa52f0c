/- Contracts of the small functions of packages sizes, iblt and of their references.
   Conditions: those that each theorem names. -/
import Derived.Test.YtkdbbdlkfpjdfaaRows
import Derived.WalkKit
import Derived.WalkSpells
import Derived.WalkLawsBesides
import Derived.Lib.Hide
import Derived.Test.YtkdbbdlkfpjdfaaBs
namespace Go.Proofs.Ytkdbbdlkfpjdfaa
set_option maxRecDepth 100000
set_option linter.unusedVariables false
set_option linter.unusedSimpArgs false
open Go.RowKit Go.Rg
attribute [local go_sem] Rg.max2_int Rg.min2_int Rg.max_two Rg.min_two

theorem szret_int {k : IntKind} {a b : Int} (h : a = b) : Ending.returned (.int k a) = .returned (.int k b) := by rw [h]
theorem szret_bool {a b : Bool} (h : a = b) : Ending.returned (.bool a) = .returned (.bool b) := by rw [h]

def fit (n : Int) : Bool := decide (3 ≤ n ∧ n ≤ 1536 ∧ n % 3 = 0)
def cellsV (g : Int) : Int := 3 * min 512 (max 0 (min g 4096) / 2 + max 0 (min g 4096) / 8 + 4)
def nextV (n : Int) : Int := if fit n = true then min 1536 (2 * n) else 0
def partsV (n : Int) : Int := if fit n = true then (n + 47) / 48 else 0
def bytesV (n : Int) : Int := if fit n = true then 28 * n else 0

theorem fit_any (n : Int) (w : World) : Calls Try.prog 37 #[.int .i64 n] w fun e w' => e = .returned (.bool (fit n)) ∧ w = w' := by
  go_enter Try.func37, Try.ntmps37
  go_wp2
  all_goals
    go_ret
    refine ⟨szret_bool ?_, rfl⟩
    unfold fit
    first
      | (rw [eq_comm, decide_eq_false_iff_not]; omega)
      | (rw [Bool.eq_iff_iff]; simp; omega)
theorem rfit_any (n : Int) (w : World) : Calls Try.prog 35 #[.int .i64 n] w fun e w' => e = .returned (.bool (fit n)) ∧ w = w' := by
  go_enter Try.func35, Try.ntmps35
  go_wp2
  all_goals
    go_ret
    refine ⟨szret_bool ?_, rfl⟩
    unfold fit
    first
      | (rw [eq_comm, decide_eq_false_iff_not]; omega)
      | (rw [Bool.eq_iff_iff]; simp; omega)
theorem szcells_any (g : Int) (w : World) : Calls Try.prog 87 #[.int .i64 g] w fun e w' => e = .returned (.int .i64 (cellsV g)) ∧ w = w' := by
  go_enter Try.func87, Try.ntmps87
  go_wp2
  go_ret
  refine ⟨szret_int ?_, rfl⟩
  unfold cellsV; rfl
theorem sznext_any (n : Int) (w : World) : Calls Try.prog 88 #[.int .i64 n] w fun e w' => e = .returned (.int .i64 (nextV n)) ∧ w = w' := by
  by_cases h : fit n = true
  · have hb := of_decide_eq_true h
    have e : nextV n = min 1536 (2 * n) := if_pos h
    rw [e]; clear e
    have H := Lib.hid h; clear h
    obtain ⟨h1, h2, h3⟩ := hb; clear h3
    go_enter Try.func88, Try.ntmps88
    go_wp2_with (go_at_call 37; refine (fit_any _ _).mono ?_; rintro e w' ⟨rfl, rfl⟩; rw [H.out])
    go_ret
    exact ⟨rfl, rfl⟩
  · have e : nextV n = 0 := if_neg h
    rw [e]; clear e
    have H := Lib.hid (Bool.eq_false_iff.2 h); clear h
    go_enter Try.func88, Try.ntmps88
    go_wp2_with (go_at_call 37; refine (fit_any _ _).mono ?_; rintro e w' ⟨rfl, rfl⟩; rw [H.out])
    go_ret
    exact ⟨rfl, rfl⟩
theorem szparts_any (n : Int) (w : World) : Calls Try.prog 56 #[.int .i64 n] w fun e w' => e = .returned (.int .i64 (partsV n)) ∧ w = w' := by
  by_cases h : fit n = true
  · have hb := of_decide_eq_true h
    have e : partsV n = (n + 47) / 48 := if_pos h
    rw [e]; clear e
    have H := Lib.hid h; clear h
    obtain ⟨h1, h2, h3⟩ := hb; clear h3
    go_enter Try.func56, Try.ntmps56
    go_wp2_with (go_at_call 37; refine (fit_any _ _).mono ?_; rintro e w' ⟨rfl, rfl⟩; rw [H.out])
    go_ret
    exact ⟨szret_int (by show (n + 48 - 1) / 48 = _; congr 1; omega), rfl⟩
  · have e : partsV n = 0 := if_neg h
    rw [e]; clear e
    have H := Lib.hid (Bool.eq_false_iff.2 h); clear h
    go_enter Try.func56, Try.ntmps56
    go_wp2_with (go_at_call 37; refine (fit_any _ _).mono ?_; rintro e w' ⟨rfl, rfl⟩; rw [H.out])
    go_ret
    exact ⟨rfl, rfl⟩
theorem szbytes_any (n : Int) (w : World) : Calls Try.prog 58 #[.int .i64 n] w fun e w' => e = .returned (.int .i64 (bytesV n)) ∧ w = w' := by
  by_cases h : fit n = true
  · have hb := of_decide_eq_true h
    have e : bytesV n = 28 * n := if_pos h
    rw [e]; clear e
    have H := Lib.hid h; clear h
    obtain ⟨h1, h2, h3⟩ := hb; clear h3
    go_enter Try.func58, Try.ntmps58
    go_wp2_with (go_at_call 37; refine (fit_any _ _).mono ?_; rintro e w' ⟨rfl, rfl⟩; rw [H.out])
    go_ret
    exact ⟨rfl, rfl⟩
  · have e : bytesV n = 0 := if_neg h
    rw [e]; clear e
    have H := Lib.hid (Bool.eq_false_iff.2 h); clear h
    go_enter Try.func58, Try.ntmps58
    go_wp2_with (go_at_call 37; refine (fit_any _ _).mono ?_; rintro e w' ⟨rfl, rfl⟩; rw [H.out])
    go_ret
    exact ⟨rfl, rfl⟩
theorem partsV_le (n : Int) : 0 ≤ partsV n ∧ partsV n ≤ 32 := by
  unfold partsV
  split
  · rename_i h
    have := of_decide_eq_true h
    omega
  · omega
def rangeOk (n p : Int) : Bool := decide (0 ≤ p ∧ p < partsV n)
def rangeA (n p : Int) : Int := if rangeOk n p = true then p * 48 else 0
def rangeB (n p : Int) : Int := if rangeOk n p = true then min n (p * 48 + 48) else 0
theorem szrange_any (n p : Int) (w : World) : Calls Try.prog 57 #[.int .i64 n, .int .i64 p] w fun e w' => e = .returned (.tuple #[.int .i64 (rangeA n p), .int .i64 (rangeB n p), .bool (rangeOk n p)]) ∧ w = w' := by
  have hle := partsV_le n
  by_cases h : rangeOk n p = true
  · have hb := of_decide_eq_true h
    rw [show rangeA n p = p * 48 from if_pos h, show rangeB n p = min n (p * 48 + 48) from if_pos h, h]
    obtain ⟨h1, h2⟩ := hb
    have d1 : decide (p < 0) = false := decide_eq_false (by omega)
    have d2 : decide (partsV n ≤ p) = false := decide_eq_false (by omega)
    clear h
    go_enter Try.func57, Try.ntmps57
    go_wp2_with (go_at_call 56; refine (szparts_any _ _).mono ?_; rintro e w' ⟨rfl, rfl⟩)
    go_ret3
    exact ⟨rfl, rfl⟩
  · have hb := of_decide_eq_false (Bool.eq_false_iff.2 h)
    rw [show rangeA n p = 0 from if_neg h, show rangeB n p = 0 from if_neg h, Bool.eq_false_iff.2 h]
    clear h
    by_cases h1 : p < 0
    · have d1 : decide (p < 0) = true := decide_eq_true h1
      clear hb
      go_enter Try.func57, Try.ntmps57
      go_wp2_with (go_at_call 56; refine (szparts_any _ _).mono ?_; rintro e w' ⟨rfl, rfl⟩)
      go_ret3
      exact ⟨rfl, rfl⟩
    · have d1 : decide (p < 0) = false := decide_eq_false h1
      have d2 : decide (partsV n ≤ p) = true := decide_eq_true (by omega)
      clear hb
      go_enter Try.func57, Try.ntmps57
      go_wp2_with (go_at_call 56; refine (szparts_any _ _).mono ?_; rintro e w' ⟨rfl, rfl⟩)
      go_ret3
      exact ⟨rfl, rfl⟩
end Go.Proofs.Ytkdbbdlkfpjdfaa
