/- Contracts of the small functions of package peer.
   Conditions: none beyond those in each theorem. -/
import Derived.Test.YtlapamepkamnbaaRows
import Derived.WalkKit
import Derived.WalkSpells
import Derived.WalkLawsBesides
import Derived.Lib.Hide
namespace Go.Proofs.Ytlapamepkamnbaa
open Go.RowKit

def fits (n : Int) : Bool := decide (2 ≤ n ∧ n ≤ 8)
def knownB (n i : Int) : Bool := decide (2 ≤ n ∧ n ≤ 8 ∧ 0 ≤ i ∧ i < n)
def peerOk (n i t : Int) : Bool := decide (2 ≤ n ∧ n ≤ 8 ∧ 0 ≤ i ∧ i < n ∧ 0 ≤ t)
def peerV (n i t : Int) : Int := if 2 ≤ n ∧ n ≤ 8 ∧ 0 ≤ i ∧ i < n ∧ 0 ≤ t then (i + 1 + t % (n - 1)) % n else 0
def turnOk (n i p : Int) : Bool := decide (2 ≤ n ∧ n ≤ 8 ∧ 0 ≤ i ∧ i < n ∧ 0 ≤ p ∧ p < n ∧ i ≠ p)
def turnV (n i p : Int) : Int := if 2 ≤ n ∧ n ≤ 8 ∧ 0 ≤ i ∧ i < n ∧ 0 ≤ p ∧ p < n ∧ i ≠ p then (p - i - 1 + n) % n else 0
def sessV (n r : Int) : Int := if 2 ≤ n ∧ n ≤ 8 then n * (n - 1) * max 0 (min r 1048576) else 0

theorem fits_any (n : Int) (w : World) : Calls Try.prog 9 #[.int .i64 n] w fun e w' => e = .returned (.bool (fits n)) ∧ w = w' := by
  go_enter Try.func9, Try.ntmps9
  go_wp2
  all_goals
    go_ret
    refine ⟨?_, rfl⟩
    simp [fits] <;> omega

theorem known_yes (n i : Int) (w : World) (h : 2 ≤ n) (h' : n ≤ 8) (hi : 0 ≤ i) (hi' : i < n) : Calls Try.prog 13 #[.int .i64 n, .int .i64 i] w fun e w' => e = .returned (.bool true) ∧ w = w' := by
  go_enter Try.func13, Try.ntmps13
  go_wp2
  go_ret
  simp
theorem known_no (n i : Int) (w : World) (h : ¬ (2 ≤ n ∧ n ≤ 8 ∧ 0 ≤ i ∧ i < n)) : Calls Try.prog 13 #[.int .i64 n, .int .i64 i] w fun e w' => e = .returned (.bool false) ∧ w = w' := by
  go_enter Try.func13, Try.ntmps13
  go_wp2
  all_goals
    go_ret
    refine ⟨?_, rfl⟩
    simp <;> omega
theorem peer_any (n i t : Int) (w : World) (ht' : t ≤ 9223372036854775807) : Calls Try.prog 7 #[.int .i64 n, .int .i64 i, .int .i64 t] w fun e w' => e = .returned (.tuple #[.int .i64 (peerV n i t), .bool (peerOk n i t)]) ∧ w = w' := by
  by_cases h : 2 ≤ n ∧ n ≤ 8 ∧ 0 ≤ i ∧ i < n
  · obtain ⟨h1, h2, h3, h4⟩ := h
    by_cases ht : 0 ≤ t
    · have e1 : peerV n i t = (i + 1 + t % (n - 1)) % n := by unfold peerV; rw [if_pos ⟨h1, h2, h3, h4, ht⟩]
      have e2 : peerOk n i t = true := by unfold peerOk; rw [decide_eq_true]; exact ⟨h1, h2, h3, h4, ht⟩
      rw [e1, e2]; clear e1 e2
      have b1 := Int.emod_nonneg t (show n - 1 ≠ 0 by omega)
      have b2 := Int.emod_lt_of_pos t (show 0 < n - 1 by omega)
      go_enter Try.func7, Try.ntmps7
      go_wp2_with (go_at_call 13; refine (known_yes n i _ h1 h2 h3 h4).mono ?_; rintro e w' ⟨rfl, rfl⟩)
      go_ret2
      exact ⟨rfl, rfl⟩
    · have e1 : peerV n i t = 0 := by unfold peerV; rw [if_neg (fun h => ht h.2.2.2.2)]
      have e2 : peerOk n i t = false := by unfold peerOk; rw [decide_eq_false]; exact (fun h => ht h.2.2.2.2)
      rw [e1, e2]; clear e1 e2
      go_enter Try.func7, Try.ntmps7
      go_wp2_with (go_at_call 13; refine (known_yes n i _ h1 h2 h3 h4).mono ?_; rintro e w' ⟨rfl, rfl⟩)
      go_ret2
      exact ⟨rfl, rfl⟩
  · have e1 : peerV n i t = 0 := by unfold peerV; rw [if_neg (fun h' => h ⟨h'.1, h'.2.1, h'.2.2.1, h'.2.2.2.1⟩)]
    have e2 : peerOk n i t = false := by unfold peerOk; rw [decide_eq_false]; exact (fun h' => h ⟨h'.1, h'.2.1, h'.2.2.1, h'.2.2.2.1⟩)
    rw [e1, e2]; clear e1 e2
    go_enter Try.func7, Try.ntmps7
    go_wp2_with (go_at_call 13; refine (known_no n i _ h).mono ?_; rintro e w' ⟨rfl, rfl⟩)
    go_ret2
    exact ⟨rfl, rfl⟩
theorem turn_any (n i t : Int) (w : World) : Calls Try.prog 8 #[.int .i64 n, .int .i64 i, .int .i64 t] w fun e w' => e = .returned (.tuple #[.int .i64 (turnV n i t), .bool (turnOk n i t)]) ∧ w = w' := by
  have key : ∀ (h : ¬ (2 ≤ n ∧ n ≤ 8 ∧ 0 ≤ i ∧ i < n ∧ 0 ≤ t ∧ t < n ∧ i ≠ t)), turnV n i t = 0 ∧ turnOk n i t = false := fun h =>
    ⟨by unfold turnV; rw [if_neg h], by unfold turnOk; rw [decide_eq_false h]⟩
  by_cases h : 2 ≤ n ∧ n ≤ 8 ∧ 0 ≤ i ∧ i < n
  · by_cases ht : 0 ≤ t ∧ t < n
    · obtain ⟨h1, h2, h3, h4⟩ := h
      obtain ⟨t1, t2⟩ := ht
      by_cases hit : i = t
      · obtain ⟨e1, e2⟩ := key (fun h => h.2.2.2.2.2.2 hit)
        rw [e1, e2]; clear e1 e2 key
        subst hit
        go_enter Try.func8, Try.ntmps8
        go_wp2_with (go_at_call 13; refine (known_yes n _ _ h1 h2 (by assumption) (by assumption)).mono ?_; rintro e w' ⟨rfl, rfl⟩)
        go_ret2
        exact ⟨rfl, rfl⟩
      · have e1 : turnV n i t = (t - i - 1 + n) % n := by unfold turnV; rw [if_pos ⟨h1, h2, h3, h4, t1, t2, hit⟩]
        have e2 : turnOk n i t = true := by unfold turnOk; rw [decide_eq_true]; exact ⟨h1, h2, h3, h4, t1, t2, hit⟩
        rw [e1, e2]; clear e1 e2 key
        go_enter Try.func8, Try.ntmps8
        go_wp2_with (go_at_call 13; refine (known_yes n _ _ h1 h2 (by assumption) (by assumption)).mono ?_; rintro e w' ⟨rfl, rfl⟩)
        go_ret2
        exact ⟨rfl, rfl⟩
    · obtain ⟨e1, e2⟩ := key (fun h => ht ⟨h.2.2.2.2.1, h.2.2.2.2.2.1⟩)
      rw [e1, e2]; clear e1 e2 key
      have hk : ¬ (2 ≤ n ∧ n ≤ 8 ∧ 0 ≤ t ∧ t < n) := by omega
      obtain ⟨h1, h2, h3, h4⟩ := h
      go_enter Try.func8, Try.ntmps8
      go_wp2_with fail
      refine (known_yes n i _ h1 h2 h3 h4).mono ?_; rintro e w' ⟨rfl, rfl⟩
      go_wp2_with fail
      refine (known_no n t _ hk).mono ?_; rintro e w' ⟨rfl, rfl⟩
      go_wp2
      go_ret2
      exact ⟨rfl, rfl⟩
  · obtain ⟨e1, e2⟩ := key (fun h' => h ⟨h'.1, h'.2.1, h'.2.2.1, h'.2.2.2.1⟩)
    rw [e1, e2]; clear e1 e2 key
    go_enter Try.func8, Try.ntmps8
    go_wp2_with (go_at_call 13; refine (known_no n i _ h).mono ?_; rintro e w' ⟨rfl, rfl⟩)
    go_ret2
    exact ⟨rfl, rfl⟩
theorem ret_int {k : IntKind} {a b : Int} (h : a = b) : Ending.returned (.int k a) = .returned (.int k b) := by rw [h]
theorem sess_mul (n m : Int) (h1 : 2 ≤ n) (h2 : n ≤ 8) (m1 : 0 ≤ m) (m2 : m ≤ 1048576) : wrap64 (wrap64 (n * (n - 1)) * m) = n * (n - 1) * m := by
  obtain h | h | h | h | h | h | h : n = 2 ∨ n = 3 ∨ n = 4 ∨ n = 5 ∨ n = 6 ∨ n = 7 ∨ n = 8 := by omega
  all_goals (subst h; simp only [wrap64]; omega)
theorem sess_any (n r : Int) (w : World) : Calls Try.prog 10 #[.int .i64 n, .int .i64 r] w fun e w' => e = .returned (.int .i64 (sessV n r)) ∧ w = w' := by
  by_cases h : 2 ≤ n ∧ n ≤ 8
  · obtain ⟨h1, h2⟩ := h
    have e : sessV n r = n * (n - 1) * max 0 (min r 1048576) := by unfold sessV; rw [if_pos ⟨h1, h2⟩]
    have f : fits n = true := by unfold fits; rw [decide_eq_true ⟨h1, h2⟩]
    rw [e]; clear e
    have HF := Lib.hid f; clear f
    go_enter Try.func10, Try.ntmps10
    go_wp2_with (go_at_call 9; refine (fits_any n _).mono ?_; rintro e w' ⟨rfl, rfl⟩; rw [HF.out])
    · go_ret
      exact ⟨ret_int (by rw [show max 0 (min r 1048576) = 1048576 by omega]; exact sess_mul n 1048576 h1 h2 (by omega) (by omega)), rfl⟩
    · go_ret
      exact ⟨ret_int (by rw [show max 0 (min r 1048576) = r by omega]; exact sess_mul n r h1 h2 (by omega) (by omega)), rfl⟩
    · go_ret
      exact ⟨ret_int (by rw [show max 0 (min r 1048576) = 0 by omega]; simp [wrap64]), rfl⟩
  · have e : sessV n r = 0 := by unfold sessV; rw [if_neg h]
    have f : fits n = false := by unfold fits; rw [decide_eq_false h]
    rw [e]; clear e
    have HF := Lib.hid f; clear f
    go_enter Try.func10, Try.ntmps10
    go_wp2_with (go_at_call 9; refine (fits_any n _).mono ?_; rintro e w' ⟨rfl, rfl⟩; rw [HF.out])
    go_ret
    exact ⟨rfl, rfl⟩
end Go.Proofs.Ytlapamepkamnbaa
