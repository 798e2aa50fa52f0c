/- What must be answered ahead of everything else; the reference's cut points; the walks of SizesRounds and SizesParts.
   Conditions: the arguments are int's. -/
import Derived.Test.YtlefgeomknbeeaaB
namespace Go.Proofs.Ytlefgeomknbeeaa
open Go.RowKit Go.Shelf Go.Rg
attribute [local go_sem] Rg.max2_int Rg.min2_int Rg.max_two Rg.min_two

theorem row_cells_int {w : World} {base : Nat} {v : Value} {n : Nat} {xs : List Value} (h : w.ownsRow base 3 1 v n xs) (h0 : 0 < n) : ∃ g cap, v = .slice (some ⟨g, 0, none⟩) n cap ∧ n ≤ cap ∧ g < w.heap.size ∧ ∀ j, j < n → w.cell? ⟨g, j, none⟩ = xs[j]? := by
  rcases h.2 with ⟨_, h1⟩ | ⟨g, cap, cur, rfl, hb, hg, hc, hrest⟩
  · omega
  · exact ⟨g, cap, rfl, hc, (h.lt g rfl).2, fun j hj => h.cellAt j (by omega)⟩

set_option maxRecDepth 100000 in
set_option maxHeartbeats 1000000 in
theorem first_any (w : World) : Calls Try.prog 6 #[] w fun e w' => e = .returned (.bool true) ∧ Below w.heap.size w w' := by
  go_enter Try.func6, Try.ntmps6
  go_wp2_with fail
  refine (lawround_any 0 9 _).mono ?_
  rintro e w1 ⟨va, vb, rfl, ra, rb, hB⟩
  have ex : (rnds 0).take (Int.toNat 9) = [(0, 12), (1, 24), (2, 48), (3, 96)] := by decide
  rw [ex] at ra rb
  obtain ⟨ga, ca, rfl, hca, _, fa⟩ := row_cells_int ra (by decide)
  obtain ⟨gb, cb, rfl, hcb, _, fb⟩ := row_cells_int rb (by decide)
  have a3 : w1.cell? ⟨ga, 3, none⟩ = some (.int .i64 3) := fa 3 (by decide)
  have b3 : w1.cell? ⟨gb, 3, none⟩ = some (.int .i64 96) := fb 3 (by decide)
  clear fa fb ex ra rb
  go_wp2_with fail
  refine (range_any 60 1 _).mono ?_
  rintro e w2 ⟨rfl, rfl⟩
  rw [show rangeA 60 1 = 48 by decide, show rangeB 60 1 = 60 by decide, show rangeOk 60 1 = true by decide]
  go_wp2_with fail
  refine (cells_any 0 _).mono ?_
  rintro e w2 ⟨rfl, rfl⟩
  rw [show cellsV 0 = 12 by decide]
  go_wp2_with fail
  refine (next_any 1536 _).mono ?_
  rintro e w2 ⟨rfl, rfl⟩
  rw [show nextV 1536 = 1536 by decide]
  go_wp2_with fail
  refine (next_any 4 _).mono ?_
  rintro e w2 ⟨rfl, rfl⟩
  rw [show nextV 4 = 0 by decide]
  go_wp2_with fail
  refine (parts_any 60 _).mono ?_
  rintro e w2 ⟨rfl, rfl⟩
  rw [show partsV 60 = 2 by decide]
  go_wp2_with fail
  refine (bytes_any 3 _).mono ?_
  rintro e w2 ⟨rfl, rfl⟩
  rw [show bytesV 3 = 84 by decide]
  go_wp2_with fail
  go_ret
  exact ⟨rfl, hB⟩

theorem rnds_take (g : Int) (k : Nat) : (rnds g).take k = rup g (min k 4) := by
  unfold rnds rup
  rw [← List.map_take, List.take_range]
theorem rup_get (g : Int) (m i : Nat) (h : i < m) (f : Int × Int → Value) : ((rup g m).map f)[i]? = some (f ((i : Int), sizeAt g i)) := by
  simp [rup, h]

set_option maxRecDepth 100000 in
set_option maxHeartbeats 1000000 in
theorem rounds_any (g s most : Int) (w : World) : Calls Try.prog 3 #[.int .i64 g, .int .i64 s, .int .i64 most] w fun e w' => e = .returned (.bool true) ∧ Below w.heap.size w w' := by
  go_enter Try.func3, Try.ntmps3
  go_wp2_with fail
  refine (first_any _).mono ?_
  rintro e w1 ⟨rfl, hB1⟩
  go_wp2_with fail
  refine (lawround_any g _ _).mono ?_
  rintro e w2 ⟨va, vb, rfl, ra, rb, hB2⟩
  rw [rnds_take, rup_len] at ra rb
  obtain ⟨pa, ca, rfl⟩ := row_shape ra
  obtain ⟨pb, cb, rfl⟩ := row_shape rb
  have hB := hB1.trans (hB2.mono hB1.size)
  have hm : ((min (max 0 (min most 9)).toNat 4 : Nat) : Int) = min (max 0 (min most 9)) 4 := by omega
  generalize hmm : min (max 0 (min most 9)).toNat 4 = m at *
  have d1 : ((m : Int) != min (max 0 (min most 9)) 4) = false := by rw [hm]; simp
  have hm4 : m ≤ 4 := by omega
  have dc : (cellsV g != cellsV g) = false := by simp
  have dn : (nextV s != nextV s) = false := by simp
  clear hB1 hB2 hm hmm
  go_wp2_with (first | (go_at_call 8; refine (rcells_any _ _).mono ?_; rintro e w' ⟨rfl, rfl⟩) | (go_at_call 9; refine (cells_any _ _).mono ?_; rintro e w' ⟨rfl, rfl⟩) | (go_at_call 10; refine (next_any _ _).mono ?_; rintro e w' ⟨rfl, rfl⟩) | (go_at_call 11; refine (rnext_any _ _).mono ?_; rintro e w' ⟨rfl, rfl⟩))
  go_loop [10, 11, 45] (fun n _ c => ∃ i : Nat, i ≤ m ∧ c = .int .i64 i ∧ n = .int .i64 (sizeAt g i)) (fun _ _ c => m - (intOf c).toNat)
  case atStart => exact ⟨0, by omega, rfl, rfl⟩
  case round =>
    obtain ⟨i, hi, rfl, rfl⟩ := hrel
    by_cases him : i < m
    · obtain ⟨ga, _, e, hca, _, fa⟩ := row_cells_int ra (by omega)
      cases e
      obtain ⟨gb, _, e, hcb, _, fb⟩ := row_cells_int rb (by omega)
      cases e
      have c1 : w2.cell? ⟨ga, i, none⟩ = some (.int .i64 i) := (fa i him).trans (rup_get g m i him _)
      have c2 : w2.cell? ⟨gb, i, none⟩ = some (.int .i64 (sizeAt g i)) := (fb i him).trans (rup_get g m i him _)
      have e1 : decide (i < m) = true := decide_eq_true him
      have e2 : (sizeAt g i != sizeAt g i) = false := by simp
      have e3 : ((i : Int) != (i : Int)) = false := by simp
      clear fa fb ra rb
      go_wp2_with (go_at_call 11; refine (rnext_any _ _).mono ?_; rintro e w' ⟨rfl, rfl⟩)
      go_round
      case rel => exact ⟨i + 1, by omega, by go_num, rfl⟩
      case measure => simp [intOf]; omega
    · have e1 : decide (i < m) = false := decide_eq_false him
      go_wp2_with fail
      go_ret
      exact ⟨rfl, hB⟩

/-- The cut points. -/
def cuts (n k : Nat) : List Value := (List.range (k + 1)).map fun j => .int .i64 (min n (48 * j) : Nat)
theorem cuts_len (n k : Nat) : (cuts n k).length = k + 1 := by simp [cuts]
theorem cuts_succ (n k : Nat) : cuts n (k + 1) = cuts n k ++ [.int .i64 (min n (48 * (k + 1)) : Nat)] := by
  unfold cuts
  rw [List.range_succ, List.map_append]; rfl
theorem cuts_get (n k j : Nat) (h : j ≤ k) : (cuts n k)[j]? = some (.int .i64 (min n (48 * j) : Nat)) := by
  simp [cuts, show j < k + 1 by omega]

set_option maxRecDepth 100000 in
set_option maxHeartbeats 1000000 in
theorem rparts_any (n : Nat) (h0 : 0 < n) (hn : n ≤ 1536) (w : World) : Calls Try.prog 16 #[.int .i64 n] w fun e w' => ∃ v, e = .returned v ∧ w'.ownsRow w.heap.size 3 1 v ((n + 47) / 48 + 1) (cuts n ((n + 47) / 48)) ∧ Below w.heap.size w w' := by
  obtain ⟨i0, hi0, hz0, hz1, hz2⟩ := info_parts info3
  go_enter Try.func16, Try.ntmps16
  go_wp2_with fail
  go_loopw [3, 4] (fun v _ wr => ∃ k : Nat, k ≤ (n + 47) / 48 ∧ wr.ownsRow w.heap.size 3 1 v (k + 1) (cuts n k) ∧ Below w.heap.size w wr) (fun v _ _ => match v with | .slice _ l _ => 40 - l | _ => 0)
  case atStart =>
    exact ⟨0, by omega, by simpa [cuts] using World.ownsRow_lit (base := w.heap.size) (e := 3) (size := 1) w #[.int .i64 0] 1 (Nat.le_refl _) (by decide) rfl, (Below.refl _ _).alloc (Nat.le_refl _) _⟩
  case round =>
    obtain ⟨k, hk, hr, hB⟩ := hrel
    obtain ⟨g, cap, rfl, hcap, hg, hf⟩ := row_cells_int hr (by omega)
    have c1 : wr.cell? ⟨g, k, none⟩ = some (.int .i64 (min n (48 * k) : Nat)) := (hf k (by omega)).trans (cuts_get n k k (Nat.le_refl _))
    have hb0 := hB.size
    clear hf
    by_cases hl : 48 * k < n
    · have em : min n (48 * k) = 48 * k := by omega
      rw [em] at c1
      have e1 : decide (48 * k < n) = true := decide_eq_true hl
      have e2 : decide ((48 * (k : Int)) < (n : Int)) = true := decide_eq_true (by omega)
      have hs := cuts_succ n k
      have HS := Lib.hid hs
      clear em hs
      by_cases hc : n < 48 * k + 48
      · have e3 : decide ((n : Int) < 48 * (k : Int) + 48) = true := decide_eq_true (by omega)
        rw [show min n (48 * (k + 1)) = n by omega] at HS
        go_wp2_with (at_builtin; refine wpList_append_own _ rfl (.tmp 25) (.tmp 27) 23 rfl w.heap.size 3 i0 (.int .i64 0) 1 8 Try.underlying23 hi0 hz0 hz1 hz2 rfl (by decide) (.slice (some ⟨g, 0, none⟩) (k + 1) cap) _ _ rfl (hr.alloc _) ⟨wr.heap.size, 0, none⟩ 1 1 [.int .i64 n] rfl rfl (cell_one_new _ _ _) (by simp [Value.oneCell']) (by unfold maxLen; omega) (by omega) (by simp; omega) ?_; intro v' w1 ho' hg' _; obtain ⟨g', cap', rfl⟩ := ownsRow_succ ho')
        go_roundw
        case rel => exact ⟨k + 1, by omega, by rw [HS.out]; exact ho', (hB.alloc hb0 _).grown hg' (by simp; omega) (fun b e => (hr.lt b e).1)⟩
        case measure => simp; omega
      · have e3 : decide ((n : Int) < 48 * (k : Int) + 48) = false := decide_eq_false (by omega)
        rw [show min n (48 * (k + 1)) = 48 * k + 48 by omega] at HS
        go_wp2_with (at_builtin; refine wpList_append_own _ rfl (.tmp 25) (.tmp 27) 23 rfl w.heap.size 3 i0 (.int .i64 0) 1 8 Try.underlying23 hi0 hz0 hz1 hz2 rfl (by decide) (.slice (some ⟨g, 0, none⟩) (k + 1) cap) _ _ rfl (hr.alloc _) ⟨wr.heap.size, 0, none⟩ 1 1 [.int .i64 (48 * (k : Int) + 48)] rfl rfl (cell_one_new _ _ _) (by simp [Value.oneCell']) (by unfold maxLen; omega) (by omega) (by simp; omega) ?_; intro v' w1 ho' hg' _; obtain ⟨g', cap', rfl⟩ := ownsRow_succ ho')
        go_roundw
        case rel => exact ⟨k + 1, by omega, by rw [HS.out]; simpa using ho', (hB.alloc hb0 _).grown hg' (by simp; omega) (fun b e => (hr.lt b e).1)⟩
        case measure => simp; omega
    · have em : min n (48 * k) = n := by omega
      rw [em] at c1
      obtain rfl : k = (n + 47) / 48 := by omega
      have e1 : decide (n < n) = false := decide_eq_false (by omega)
      clear em
      go_wp2_with fail
      go_ret
      exact ⟨_, rfl, hr, hB⟩

set_option maxRecDepth 100000 in
set_option maxHeartbeats 1000000 in
theorem sparts_any (s p : Int) (w : World) (hp : -9223372036854775808 ≤ p ∧ p ≤ 9223372036854775807) : Calls Try.prog 4 #[.int .i64 s, .int .i64 p] w fun e w' => e = .returned (.bool true) ∧ Below w.heap.size w w' := by
  have hle := partsV_le s
  by_cases hf : fit s = true
  · obtain ⟨n, rfl⟩ := Int.eq_ofNat_of_zero_le (show 0 ≤ s by have := of_decide_eq_true hf; omega)
    have hb := of_decide_eq_true hf
    have hb1 : 0 < n := by omega
    have hb2 : n ≤ 1536 := by omega
    have hv : partsV (n : Int) = ((n + 47) / 48 : Nat) := by unfold partsV; rw [if_pos hf]; omega
    have hy : bytesV (n : Int) = 28 * (n : Int) := if_pos hf
    go_enter Try.func4, Try.ntmps4
    go_wp2_with fail
    refine (first_any _).mono ?_
    rintro e w1 ⟨rfl, hB1⟩
    go_wp2_with fail
    refine (range_any _ p _).mono ?_
    rintro e w2 ⟨rfl, rfl⟩
    go_wp2_with fail
    refine (rfit_any _ _).mono ?_
    rintro e w2 ⟨rfl, rfl⟩
    rw [hf]
    have HF := Lib.hid hf
    clear hf
    go_wp2_with fail
    refine (rparts_any n hb1 hb2 _).mono ?_
    rintro e w2 ⟨v, rfl, hr, hB2⟩
    have hB := hB1.trans (hB2.mono hB1.size)
    clear hB1 hB2
    obtain ⟨g, cap, rfl, hcap, _, hfc⟩ := row_cells_int hr (by omega)
    rw [hv] at hle
    have HV := Lib.hid hv
    have HY := Lib.hid hy
    clear hr hv hy
    generalize hm : (n + 47) / 48 = m at *
    have HM := Lib.hid hm
    clear hm
    go_wp2_with fail
    refine (parts_any _ _).mono ?_
    rintro e w3 ⟨rfl, rfl⟩
    rw [HV.out]
    have d1 : ((m : Int) != (m : Int) + 1 - 1) = false := by rw [bne_eq_false_iff_eq]; omega
    have d2 : ((m : Int) != (m : Int)) = false := by simp
    go_wp2_with fail
    refine (bytes_any _ _).mono ?_
    rintro e w3 ⟨rfl, rfl⟩
    rw [HY.out]
    have d3 : (28 * (n : Int) != 28 * (n : Int)) = false := by simp
    by_cases h1 : p < 0
    · have e1 : decide (p < 0) = true := decide_eq_true h1
      have ho : rangeOk (n : Int) p = false := decide_eq_false (by omega)
      rw [show rangeA (n : Int) p = 0 by unfold rangeA; rw [ho]; rfl, show rangeB (n : Int) p = 0 by unfold rangeB; rw [ho]; rfl, ho]
      clear ho
      go_wp2_with fail
      go_ret
      exact ⟨rfl, hB⟩
    · obtain ⟨q, rfl⟩ := Int.eq_ofNat_of_zero_le (show 0 ≤ p by omega)
      have e1 : decide ((q : Int) < 0) = false := decide_eq_false (by omega)
      by_cases h2 : m ≤ q
      · have e2 : decide (m ≤ q) = true := decide_eq_true h2
        have e2' : decide ((m : Int) + 1 - 1 ≤ (q : Int)) = true := decide_eq_true (by omega)
        have ho : rangeOk (n : Int) q = false := decide_eq_false (by rw [HV.out]; omega)
        rw [show rangeA (n : Int) q = 0 by unfold rangeA; rw [ho]; rfl, show rangeB (n : Int) q = 0 by unfold rangeB; rw [ho]; rfl, ho]
        clear ho
        go_wp2_with fail
        go_ret
        exact ⟨rfl, hB⟩
      · have e2 : decide (m ≤ q) = false := decide_eq_false h2
        have e2' : decide ((m : Int) + 1 - 1 ≤ (q : Int)) = false := decide_eq_false (by omega)
        have ho : rangeOk (n : Int) q = true := decide_eq_true (by rw [HV.out]; omega)
        have hm := HM.out
        rw [show rangeA (n : Int) q = (min n (48 * q) : Nat) by unfold rangeA; rw [ho, if_pos rfl]; omega, show rangeB (n : Int) q = (min n (48 * (q + 1)) : Nat) by unfold rangeB; rw [ho, if_pos rfl]; omega, ho]
        have c1 : w2.cell? ⟨g, q, none⟩ = some (.int .i64 (min n (48 * q) : Nat)) := (hfc q (by omega)).trans (cuts_get n m q (by omega))
        have c2 : w2.cell? ⟨g, q + 1, none⟩ = some (.int .i64 (min n (48 * (q + 1)) : Nat)) := (hfc (q + 1) (by omega)).trans (cuts_get n m (q + 1) (by omega))
        generalize min n (48 * q) = x at *
        generalize min n (48 * (q + 1)) = y at *
        have d4 : ((x : Int) == (x : Int)) = true := by simp
        have d5 : ((y : Int) == (y : Int)) = true := by simp
        clear ho hm hfc
        go_wp2_with fail
        go_ret
        exact ⟨rfl, hB⟩
  · have hff := Bool.eq_false_iff.2 hf
    have hv : partsV s = 0 := if_neg hf
    have hy : bytesV s = 0 := if_neg hf
    have ho : rangeOk s p = false := decide_eq_false (by rw [hv]; omega)
    have ha : rangeA s p = 0 := if_neg (by rw [ho]; simp)
    have hb : rangeB s p = 0 := if_neg (by rw [ho]; simp)
    have H1 := Lib.hid hff
    have H2 := Lib.hid hv
    have H3 := Lib.hid hy
    have H4 := Lib.hid ho
    have H5 := Lib.hid ha
    have H6 := Lib.hid hb
    clear hff hv hy ho ha hb hf
    go_enter Try.func4, Try.ntmps4
    go_wp2_with fail
    refine (first_any _).mono ?_
    rintro e w1 ⟨rfl, hB1⟩
    go_wp2_with fail
    refine (range_any _ p _).mono ?_
    rintro e w2 ⟨rfl, rfl⟩
    rw [H4.out, H5.out, H6.out]
    go_wp2_with fail
    refine (rfit_any _ _).mono ?_
    rintro e w2 ⟨rfl, rfl⟩
    rw [H1.out]
    go_wp2_with fail
    refine (parts_any _ _).mono ?_
    rintro e w3 ⟨rfl, rfl⟩
    rw [H2.out]
    go_wp2_with fail
    refine (bytes_any _ _).mono ?_
    rintro e w3 ⟨rfl, rfl⟩
    rw [H3.out]
    go_wp2_with fail
    go_ret
    exact ⟨rfl, hB1⟩
end Go.Proofs.Ytlefgeomknbeeaa
