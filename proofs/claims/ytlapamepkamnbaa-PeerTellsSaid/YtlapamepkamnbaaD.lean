/- The law PeerTells: the walk.
   Conditions: the arguments are int's. -/
import Derived.Test.YtlapamepkamnbaaC
namespace Go.Proofs.Ytlapamepkamnbaa
open Go.RowKit Go.Shelf Go.Rg
attribute [local go_sem] Rg.max2_int Rg.min2_int Rg.max_two Rg.min_two

theorem cell_new (w : World) (cs : Array Value) (T : TypeId) (k : Nat) {v : Value} (h : cs[k]? = some v) : (w.alloc (.cells cs T)).cell? ⟨w.heap.size, k, none⟩ = some v := by
  unfold World.cell?
  rw [World.alloc_heap_new]
  simpa using h

set_option maxRecDepth 100000 in
set_option maxHeartbeats 1000000 in
theorem tells_no (n node turn rounds : Int) (w : World) (hn : ¬ (2 ≤ n ∧ n ≤ 8)) (ht : turn ≤ 9223372036854775807) :
    Calls Try.prog 3 #[.agg #[.int .i64 n, .int .i64 node, .int .i64 turn, .int .i64 rounds]] w fun e w' => e = .returned (.bool true) ∧ Below w.heap.size w w' := by
  go_enter Try.func3, Try.ntmps3
  go_wp2_with fail
  refine (first_any _).mono ?_
  rintro e w1 ⟨rfl, hB1⟩
  have hc : ∀ k, k < 4 → w1.cell? ⟨w.heap.size, k, none⟩ = (w.alloc (.cells #[.int .i64 n, .int .i64 node, .int .i64 turn, .int .i64 rounds] 23)).cell? ⟨w.heap.size, k, none⟩ := fun k _ => hB1.cell (p := ⟨w.heap.size, k, none⟩) (by simp)
  have c0 : w1.cell? ⟨w.heap.size, 0, none⟩ = some (.int .i64 n) := (hc 0 (by omega)).trans (cell_new _ _ _ _ rfl)
  have c1 : w1.cell? ⟨w.heap.size, 1, none⟩ = some (.int .i64 node) := (hc 1 (by omega)).trans (cell_new _ _ _ _ rfl)
  have c2 : w1.cell? ⟨w.heap.size, 2, none⟩ = some (.int .i64 turn) := (hc 2 (by omega)).trans (cell_new _ _ _ _ rfl)
  have c3 : w1.cell? ⟨w.heap.size, 3, none⟩ = some (.int .i64 rounds) := (hc 3 (by omega)).trans (cell_new _ _ _ _ rfl)
  clear hc
  go_wp2_with fail
  go_quiet (fail)
  go_wp2_with fail
  refine (lawround_any n _ _).mono ?_
  rintro e w2 ⟨va, vb, rfl, ra, rb, hB2⟩
  have ep : prs n = [] := by unfold prs; rw [if_neg hn]
  rw [ep] at ra rb
  obtain ⟨pa, ca, rfl⟩ := row_shape ra
  obtain ⟨pb, cb, rfl⟩ := row_shape rb
  simp only [List.take_nil, List.length_nil]
  clear ra rb ep c0 c1 c2 c3
  go_wp2_with fail
  refine (peer_any n node turn _ ht).mono ?_
  rintro e w3 ⟨rfl, rfl⟩
  rw [show peerV n node turn = 0 from if_neg (fun h => hn ⟨h.1, h.2.1⟩), show peerOk n node turn = false from decide_eq_false (fun h => hn ⟨h.1, h.2.1⟩)]
  go_wp2_with fail
  refine (turn_any n node turn _).mono ?_
  rintro e w3 ⟨rfl, rfl⟩
  rw [show turnV n node turn = 0 from if_neg (fun h => hn ⟨h.1, h.2.1⟩), show turnOk n node turn = false from decide_eq_false (fun h => hn ⟨h.1, h.2.1⟩)]
  have hB3 : Below w.heap.size w w2 := ((((Below.refl _ w).alloc (Nat.le_refl _) _).trans (hB1.mono (by simp))).trans (below_drewN (Below.refl _ _) nq)).trans (hB2.mono (by have := hB1.size; simp at this ⊢; omega))
  have HB := Lib.hid hB3
  have hnn := Lib.hid hn
  clear hB1 hB2 hB3
  by_cases h2 : n < 2
  · have d2 : decide (n < 2) = true := decide_eq_true h2
    clear hn
    go_wp2_with fail
    refine (fits_any n _).mono ?_
    rintro e w3 ⟨rfl, rfl⟩
    rw [show fits n = false from decide_eq_false hnn.out]
    go_wp2_with fail
    refine (sess_any n rounds _).mono ?_
    rintro e w3 ⟨rfl, rfl⟩
    rw [show sessV n rounds = 0 from if_neg hnn.out]
    go_wp2_with fail
    go_ret
    exact ⟨rfl, HB.out⟩
  · have d2 : decide (n < 2) = false := decide_eq_false h2
    have d8 : decide (8 < n) = true := decide_eq_true (by omega)
    clear hn
    go_wp2_with fail
    refine (fits_any n _).mono ?_
    rintro e w3 ⟨rfl, rfl⟩
    rw [show fits n = false from decide_eq_false hnn.out]
    go_wp2_with fail
    refine (sess_any n rounds _).mono ?_
    rintro e w3 ⟨rfl, rfl⟩
    rw [show sessV n rounds = 0 from if_neg hnn.out]
    go_wp2_with fail
    go_ret
    exact ⟨rfl, HB.out⟩

theorem sub_list (N k : Nat) (h2 : 2 ≤ N) (h8 : N ≤ 8) : ((prs N).take k) = upto N (min k ((N - 1) * N)) := by
  unfold prs
  rw [if_pos (by omega)]
  simp only [Int.toNat_natCast]
  unfold upto
  rw [← List.map_take, List.take_range]

theorem upto_get (N m i : Nat) (h : i < m) (f : Int × Int → Value) : ((upto N m).map f)[i]? = some (f (prAt N i)) := by
  simp [upto, h]

theorem row_cells_at {w : World} {base : Nat} {p : Option Addr} {n c : Nat} {xs : List Value} (h : w.ownsRow base 3 1 (.slice p n c) n xs) (h0 : 0 < n) : ∃ g, p = some ⟨g, 0, none⟩ ∧ n ≤ c ∧ g < w.heap.size ∧ ∀ j, j < n → w.cell? ⟨g, j, none⟩ = xs[j]? := by
  obtain ⟨g, cap, e, hc, hf⟩ := row_cells_int h h0
  cases e
  exact ⟨g, rfl, hc, (h.lt g rfl).2, hf⟩

theorem idx_lt (N τ i : Nat) (ht : τ < N - 1) (hi : i < N) : τ * N + i < (N - 1) * N :=
  calc τ * N + i < τ * N + N := by omega
    _ = (τ + 1) * N := by rw [Nat.succ_mul]
    _ ≤ (N - 1) * N := Nat.mul_le_mul_right _ (by omega)

theorem peer_at (N i T : Nat) (h2 : 2 ≤ N) (h8 : N ≤ 8) (hi : i < N) : peerV N i T = (prAt N ((T % (N - 1)) * N + i)).2 := by
  have hm : T % (N - 1) < N - 1 := Nat.mod_lt _ (by omega)
  rw [prAt_at N (T % (N - 1)) i h2 h8 hm hi]
  unfold peerV
  rw [if_pos (by omega), if_pos (by omega)]
  have e : (T : Int) % ((N : Int) - 1) = ((T % (N - 1) : Nat) : Int) := by rw [Int.natCast_emod]; congr 1; omega
  rw [e, Int.emod_eq_of_lt (by omega) (by omega : ((T % (N - 1) : Nat) : Int) < (N : Int) - 1)]

theorem turn_at (N i T : Nat) (h2 : 2 ≤ N) (h8 : N ≤ 8) (hi : i < N) (hT : T < N) (hne : i ≠ T) :
    ∃ τ : Nat, τ < N - 1 ∧ turnV N i T = τ ∧ (prAt N (τ * N + i)).2 = T := by
  have hv : turnV N i T = ((T : Int) - i - 1 + N) % N := by unfold turnV; rw [if_pos (by omega)]
  rcases Nat.lt_or_ge i T with h | h
  · refine ⟨T - i - 1, by omega, ?_, ?_⟩
    · rw [hv, show ((T : Int) - i - 1 + N) = ((T - i - 1 : Nat) : Int) + N by omega, Int.add_emod_right, Int.emod_eq_of_lt (by omega) (by omega)]
    · rw [prAt_ref N _ i (by omega) hi, if_neg (by omega)]; simp; omega
  · refine ⟨T + N - i - 1, by omega, ?_, ?_⟩
    · rw [hv, show ((T : Int) - i - 1 + N) = ((T + N - i - 1 : Nat) : Int) by omega, Int.emod_eq_of_lt (by omega) (by omega)]
    · rw [prAt_ref N _ i (by omega) hi, if_pos (by omega)]; simp; omega

theorem sess_at (N : Nat) (r : Int) (h2 : 2 ≤ N) (h8 : N ≤ 8) {M : Nat} (hM : (N - 1) * N = M) : (sessV N r == wrap64 ((M : Int) * max 0 (min r 1048576))) = true := by
  have e : sessV N r = (N : Int) * ((N : Int) - 1) * max 0 (min r 1048576) := by unfold sessV; rw [if_pos (by omega)]
  rw [e]
  have e2 : ((M : Nat) : Int) = (N : Int) * ((N : Int) - 1) := by rw [← hM, Int.natCast_mul, Int.mul_comm]; congr 1; omega
  have := sess_mul N (max 0 (min r 1048576)) (by omega) (by omega) (by omega) (by omega)
  rw [beq_iff_eq, ← this, e2]
  have hw : wrap64 ((N : Int) * ((N : Int) - 1)) = (N : Int) * ((N : Int) - 1) := by
    obtain h | h | h | h | h | h | h : N = 2 ∨ N = 3 ∨ N = 4 ∨ N = 5 ∨ N = 6 ∨ N = 7 ∨ N = 8 := by omega
    all_goals (subst h; simp only [wrap64]; omega)
  rw [hw]

theorem idx_wrap (z i : Nat) (h : z ≤ 56) (hi : i ≤ 8) : wrap64 (wrap64 (z : Int) + (i : Int)) = ((z + i : Nat) : Int) := by
  simp only [wrap64]; omega
theorem idx_wrap2 (N T i : Nat) (h2 : 2 ≤ N) (h8 : N ≤ 8) (hi : i < N) : wrap64 (wrap64 ((T : Int) % ((N : Int) - 1) * (N : Int)) + (i : Int)) = ((T % (N - 1) * N + i : Nat) : Int) := by
  have em : (T : Int) % ((N : Int) - 1) = ((T % (N - 1) : Nat) : Int) := by rw [Int.natCast_emod]; congr 1; omega
  have hmod : T % (N - 1) < N - 1 := Nat.mod_lt _ (by omega)
  rw [em, ← Int.natCast_mul]
  exact idx_wrap _ _ (Nat.mul_le_mul (show T % (N - 1) ≤ 7 by omega) h8) (by omega)
theorem idx_wrap3 (N τ i : Nat) (h8 : N ≤ 8) (hi : i < N) (hτ : τ < N - 1) : wrap64 (wrap64 ((τ : Int) * (N : Int)) + (i : Int)) = ((τ * N + i : Nat) : Int) := by
  rw [← Int.natCast_mul]
  exact idx_wrap _ _ (Nat.mul_le_mul (show τ ≤ 7 by omega) h8) (by omega)

set_option maxRecDepth 100000 in
set_option maxHeartbeats 2000000 in
theorem tells_yes (N : Nat) (node turn rounds : Int) (w : World) (h2 : 2 ≤ N) (h8 : N ≤ 8) (ht : turn ≤ 9223372036854775807) (ht' : -9223372036854775808 ≤ turn) :
    Calls Try.prog 3 #[.agg #[.int .i64 N, .int .i64 node, .int .i64 turn, .int .i64 rounds]] w fun e w' => e = .returned (.bool true) ∧ Below w.heap.size w w' := by
  go_enter Try.func3, Try.ntmps3
  go_wp2_with fail
  refine (first_any _).mono ?_
  rintro e w1 ⟨rfl, hB1⟩
  have hc : ∀ k, k < 4 → w1.cell? ⟨w.heap.size, k, none⟩ = (w.alloc (.cells #[.int .i64 N, .int .i64 node, .int .i64 turn, .int .i64 rounds] 23)).cell? ⟨w.heap.size, k, none⟩ := fun k _ => hB1.cell (p := ⟨w.heap.size, k, none⟩) (by simp)
  have c0 : w1.cell? ⟨w.heap.size, 0, none⟩ = some (.int .i64 N) := (hc 0 (by omega)).trans (cell_new _ _ _ _ rfl)
  have c1 : w1.cell? ⟨w.heap.size, 1, none⟩ = some (.int .i64 node) := (hc 1 (by omega)).trans (cell_new _ _ _ _ rfl)
  have c2 : w1.cell? ⟨w.heap.size, 2, none⟩ = some (.int .i64 turn) := (hc 2 (by omega)).trans (cell_new _ _ _ _ rfl)
  have c3 : w1.cell? ⟨w.heap.size, 3, none⟩ = some (.int .i64 rounds) := (hc 3 (by omega)).trans (cell_new _ _ _ _ rfl)
  clear hc
  go_wp2_with fail
  go_quiet (fail)
  go_wp2_with fail
  refine (lawround_any N _ _).mono ?_
  rintro e w2 ⟨va, vb, rfl, ra, rb, hB2⟩
  rw [sub_list N _ h2 h8] at ra rb
  rw [upto_len] at ra rb
  obtain ⟨pa, ca, rfl⟩ := row_shape ra
  obtain ⟨pb, cb, rfl⟩ := row_shape rb
  clear c0 c1 c2 c3
  go_wp2_with fail
  refine (peer_any N node turn _ ht).mono ?_
  rintro e w3 ⟨rfl, rfl⟩
  go_wp2_with fail
  refine (turn_any N node turn _).mono ?_
  rintro e w3 ⟨rfl, rfl⟩
  have hB3 : Below w.heap.size w w2 := ((((Below.refl _ w).alloc (Nat.le_refl _) _).trans (hB1.mono (by simp))).trans (below_drewN (Below.refl _ _) nq)).trans (hB2.mono (by have := hB1.size; simp at this ⊢; omega))
  have HB := Lib.hid hB3
  clear hB1 hB2 hB3
  have d2 : decide ((N : Int) < 2) = false := decide_eq_false (by omega)
  have d8 : decide (8 < (N : Int)) = false := decide_eq_false (by omega)
  go_wp2_with fail
  refine (pairs_any N h2 h8 _).mono ?_
  rintro e w3 ⟨vx, vy, rfl, ⟨rx, ry, _⟩, hB4⟩
  rw [upto_len] at rx ry
  obtain ⟨px, cx, rfl⟩ := row_shape rx
  obtain ⟨py, cy, rfl⟩ := row_shape ry
  have hlen : (N - 1) * N ≤ 56 := Nat.mul_le_mul (show N - 1 ≤ 7 by omega) h8
  generalize hM : (N - 1) * N = M at *
  have hMp : 0 < M := by rw [← hM]; exact Nat.mul_pos (by omega) (by omega)
  have hm : ((min (max 0 (min rounds 100)).toNat M : Nat) : Int) = min (M : Int) (max 0 (min rounds 100)) := by omega
  generalize hmm : min (max 0 (min rounds 100)).toNat M = m at *
  have d1 : ((m : Int) != min (M : Int) (max 0 (min rounds 100))) = false := by rw [hm]; simp
  have hmM : m ≤ M := by omega
  have HM := Lib.hid hM
  clear hm hmm hM
  go_wp2_with fail
  obtain ⟨gx, rfl, hcx, _, fx⟩ := row_cells_at rx hMp
  obtain ⟨gy, rfl, hcy, _, fy⟩ := row_cells_at ry hMp
  go_loopw [15, 102] (fun _ c wr => ∃ k : Nat, k ≤ m ∧ c = .int .i64 k ∧ ∃ q, wr = w3.drewN q) (fun _ c _ => m - (intOf c).toNat)
  case atStart => exact ⟨0, by omega, rfl, 0, rfl⟩
  case round =>
    obtain ⟨k, hk, rfl, q, rfl⟩ := hrel
    by_cases hkm : k < m
    · obtain ⟨ga, rfl, hca, hga, fa⟩ := row_cells_at ra (by omega)
      obtain ⟨gb, rfl, hcb, hgb, fb⟩ := row_cells_at rb (by omega)
      have ca1 : w3.cell? ⟨ga, k, none⟩ = some (.int .i64 (prAt N k).1) := ((hB4.cell (p := ⟨ga, k, none⟩) hga).trans (fa k hkm)).trans (upto_get N m k hkm _)
      have cb1 : w3.cell? ⟨gb, k, none⟩ = some (.int .i64 (prAt N k).2) := ((hB4.cell (p := ⟨gb, k, none⟩) hgb).trans (fb k hkm)).trans (upto_get N m k hkm _)
      have cx1 : w3.cell? ⟨gx, k, none⟩ = some (.int .i64 (prAt N k).1) := (fx k (by omega)).trans (upto_get N M k (by omega) _)
      have cy1 : w3.cell? ⟨gy, k, none⟩ = some (.int .i64 (prAt N k).2) := (fy k (by omega)).trans (upto_get N M k (by omega) _)
      have b1 : ((prAt N k).1 != (prAt N k).1) = false := by simp
      have b2 : ((prAt N k).2 != (prAt N k).2) = false := by simp
      have e1 : decide (k < m) = true := decide_eq_true hkm
      clear fa fb fx fy
      go_wp2_with fail
      go_quiet (fail)
      go_wp2_with fail
      go_roundw
      case rel => exact ⟨k + 1, by omega, by go_num, q + _, rfl⟩
      case measure => simp [intOf]; omega
    · have e1 : decide (k < m) = false := decide_eq_false hkm
      have HBq : Below w.heap.size w (w3.drewN q) := HB.out.trans (below_drewN (hB4.mono HB.out.size) q)
      have hs := sess_at N rounds h2 h8 HM.out
      clear d1 ra rb
      by_cases hin : 0 ≤ node ∧ node < (N : Int)
      · obtain ⟨hn1, hn2⟩ := hin
        obtain ⟨ni, rfl⟩ := Int.eq_ofNat_of_zero_le hn1
        have hni : ni < N := by omega
        have dn2 : decide (ni < N) = true := decide_eq_true hni
        by_cases hT : 0 ≤ turn
        · obtain ⟨T, rfl⟩ := Int.eq_ofNat_of_zero_le hT
          have hpo : peerOk N ni T = true := decide_eq_true (by omega)
          have hmod : T % (N - 1) < N - 1 := Nat.mod_lt _ (by omega)
          have hidx := idx_lt N (T % (N - 1)) ni hmod hni
          have ew := idx_wrap2 N T ni h2 h8 hni
          have ey : w3.cell? ⟨gy, T % (N - 1) * N + ni, none⟩ = some (.int .i64 (peerV N ni T)) := by
            rw [HM.out] at hidx
            rw [peer_at N ni T h2 h8 hni]; exact (fy _ hidx).trans (upto_get N M _ hidx _)
          rw [HM.out] at hidx
          rw [hpo]
          generalize T % (N - 1) * N + ni = z at *
          by_cases hT2 : T < N ∧ ni ≠ T
          · obtain ⟨hT2, hne⟩ := hT2
            have dt2 : decide (T < N) = true := decide_eq_true hT2
            have dt3 : ((T : Int) != (ni : Int)) = true := by rw [bne_iff_ne]; omega
            have hto : turnOk N ni T = true := decide_eq_true (by omega)
            obtain ⟨τ, hτ, htv, hty⟩ := turn_at N ni T h2 h8 hni hT2 hne
            rw [hto, htv]
            have hidx2 := idx_lt N τ ni hτ hni
            rw [HM.out] at hidx2
            have ey2 : w3.cell? ⟨gy, τ * N + ni, none⟩ = some (.int .i64 T) := by
              rw [← hty]; exact (fy _ hidx2).trans (upto_get N M _ hidx2 _)
            have ew2 := idx_wrap3 N τ ni h8 hni hτ
            generalize τ * N + ni = z2 at *
            clear hto htv hty hpo hmod
            generalize peerV N ni T = pv at *
            clear fx fy rx ry HB hB4 hlen hMp
            go_wp2_with fail
            refine (sess_any _ _ _).mono ?_
            rintro e w4 ⟨rfl, rfl⟩
            go_wp2_with fail
            go_ret
            exact ⟨rfl, HBq⟩
          · have hto : turnOk N ni T = false := decide_eq_false (by omega)
            have htv : turnV N ni T = 0 := if_neg (by omega)
            rw [hto, htv]
            clear hto htv hpo hmod
            generalize peerV N ni T = pv at *
            by_cases hT3 : T < N
            · have dt2 : decide (T < N) = true := decide_eq_true hT3
              have dt3 : ((T : Int) != (ni : Int)) = false := by rw [bne_eq_false_iff_eq]; omega
              clear fx fy rx ry HB hB4 hlen hMp
              go_wp2_with fail
              refine (sess_any _ _ _).mono ?_
              rintro e w4 ⟨rfl, rfl⟩
              go_wp2_with fail
              go_ret
              exact ⟨rfl, HBq⟩
            · have dt2 : decide (T < N) = false := decide_eq_false hT3
              clear fx fy rx ry HB hB4 hlen hMp
              go_wp2_with fail
              refine (sess_any _ _ _).mono ?_
              rintro e w4 ⟨rfl, rfl⟩
              go_wp2_with fail
              go_ret
              exact ⟨rfl, HBq⟩
        · have dt1 : decide (0 ≤ turn) = false := decide_eq_false hT
          rw [show peerV N ni turn = 0 from if_neg (by omega), show peerOk N ni turn = false from decide_eq_false (by omega), show turnV N ni turn = 0 from if_neg (by omega), show turnOk N ni turn = false from decide_eq_false (by omega)]
          clear fx fy rx ry HB hB4 hlen hMp
          go_wp2_with fail
          refine (sess_any _ _ _).mono ?_
          rintro e w4 ⟨rfl, rfl⟩
          go_wp2_with fail
          go_ret
          exact ⟨rfl, HBq⟩
      · rw [show peerV N node turn = 0 from if_neg (by omega), show peerOk N node turn = false from decide_eq_false (by omega), show turnV N node turn = 0 from if_neg (by omega), show turnOk N node turn = false from decide_eq_false (by omega)]
        by_cases hn1 : 0 ≤ node
        · have dn1 : decide (0 ≤ node) = true := decide_eq_true hn1
          have dn2 : decide (node < (N : Int)) = false := decide_eq_false (by omega)
          clear fx fy rx ry HB hB4 hlen hMp
          go_wp2_with fail
          refine (sess_any _ _ _).mono ?_
          rintro e w4 ⟨rfl, rfl⟩
          go_wp2_with fail
          go_ret
          exact ⟨rfl, HBq⟩
        · have dn1 : decide (0 ≤ node) = false := decide_eq_false hn1
          clear fx fy rx ry HB hB4 hlen hMp
          go_wp2_with fail
          refine (sess_any _ _ _).mono ?_
          rintro e w4 ⟨rfl, rfl⟩
          go_wp2_with fail
          go_ret
          exact ⟨rfl, HBq⟩
end Go.Proofs.Ytlapamepkamnbaa
