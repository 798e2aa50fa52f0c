/- The law PeerOnce: the walk.
   Conditions: the arguments are int's. -/
import Derived.Test.YtlapamepkamnbaaC
import Derived.StillTailTactics
namespace Go.Proofs.Ytlapamepkamnbaa
open Go.RowKit Go.Shelf Go.Rg
attribute [local go_sem] Rg.max2_int Rg.min2_int Rg.max_two Rg.min_two

def cnt (l : List (Int × Int)) (c : Nat) : Nat := l.countP fun x => decide (x.1 * 8 + x.2 = (c : Int))

theorem prAt_ok (N k : Nat) (h2 : 2 ≤ N) (h8 : N ≤ 8) (hk : k < (N - 1) * N) : ∃ x y : Nat, prAt N k = ((x : Int), (y : Int)) ∧ x ≤ 7 ∧ y ≤ 7 ∧ x ≠ y := by
  refine ⟨k % N, ((k % N) + 1 + k / N) % N, rfl, ?_, ?_, ?_⟩
  · have := Nat.mod_lt k (show 0 < N by omega); omega
  · have := Nat.mod_lt ((k % N) + 1 + k / N) (show 0 < N by omega); omega
  · have h1 := Nat.mod_lt k (show 0 < N by omega)
    have h3 : k / N < N - 1 := by rw [Nat.div_lt_iff_lt_mul (by omega)]; exact hk
    generalize k % N = i at *
    generalize k / N = t at *
    clear hk
    by_cases h : i + 1 + t < N
    · rw [Nat.mod_eq_of_lt h]; omega
    · rw [Nat.mod_eq_sub_mod (by omega), Nat.mod_eq_of_lt (by omega)]; omega

theorem prs_get (n : Int) (k : Nat) (hk : k < (prs n).length) : ∃ x y : Nat, (prs n).take (k + 1) = (prs n).take k ++ [((x : Int), (y : Int))] ∧ (prs n)[k]? = some ((x : Int), (y : Int)) ∧ x ≤ 7 ∧ y ≤ 7 ∧ x ≠ y := by
  have hp : prs n = if 2 ≤ n ∧ n ≤ 8 then upto n.toNat ((n.toNat - 1) * n.toNat) else [] := rfl
  by_cases h : 2 ≤ n ∧ n ≤ 8
  · rw [if_pos h] at hp
    have hl : (prs n).length = (n.toNat - 1) * n.toNat := by rw [hp, upto_len]
    obtain ⟨x, y, e, h1, h2, h3⟩ := prAt_ok n.toNat k (by omega) (by omega) (hl ▸ hk)
    have hg : (prs n)[k]? = some ((x : Int), (y : Int)) := by
      rw [hp, ← e]; unfold upto; simp [List.getElem?_map, List.getElem?_range (hl ▸ hk)]
    refine ⟨x, y, ?_, hg, h1, h2, h3⟩
    rw [List.take_add_one, hg]; rfl
  · rw [if_neg h] at hp
    rw [hp] at hk
    simp at hk

theorem cnt_snoc (l : List (Int × Int)) (x y c : Nat) : cnt (l ++ [((x : Int), (y : Int))]) c = cnt l c + if x * 8 + y = c then 1 else 0 := by
  unfold cnt
  rw [List.countP_append, List.countP_singleton]
  congr 1
  by_cases h : x * 8 + y = c
  · rw [if_pos h, if_pos (by simp; omega)]
  · rw [if_neg h, if_neg (by simp; omega)]

theorem cnt_le (l : List (Int × Int)) (c : Nat) : cnt l c ≤ l.length := List.countP_le_length

/-- The table: 64 cells. -/
def Tab (W : World) (b : Nat) (f : Nat → Nat) : Prop := ∀ c, c < 64 → W.cell? ⟨b, c, none⟩ = some (.int .i64 (f c)) ∧ W.frozen? ⟨b, c, none⟩ = false

theorem Tab.step {W : World} {b c0 : Nat} {f : Nat → Nat} {v : Int} (h : Tab W b f) (hv : v = (f c0 : Int) + 1) : Tab (W.setCell ⟨b, c0, none⟩ (.int .i64 v)) b (fun c => f c + if c0 = c then 1 else 0) := by
  intro c hc'
  obtain ⟨h1, h2⟩ := h c hc'
  refine ⟨?_, by rw [World.frozen?_setCell]; exact h2⟩
  by_cases e : c0 = c
  · subst e
    rw [World.cell?_setCell_same' _ _ _ (by rw [h1]; rfl), hv]
    simp
  · rw [World.cell?_setCell_other _ _ _ _ (by intro h; injection h with _ h _; exact e h), h1]
    simp [e]

theorem cnt_all (n : Int) (i k : Nat) (hi : i < 8) (hk : k < 8) : cnt (prs n) (i * 8 + k) = if 2 ≤ n ∧ n ≤ 8 ∧ i ≠ k ∧ (i : Int) < n ∧ (k : Int) < n then 1 else 0 := by
  by_cases h : 2 ≤ n ∧ n ≤ 8
  · obtain ⟨N, rfl⟩ := Int.eq_ofNat_of_zero_le (show 0 ≤ n by omega)
    have key : ∀ N : Fin 9, 2 ≤ N.1 → ∀ i : Fin 8, ∀ k : Fin 8, cnt (prs (N.1 : Int)) (i.1 * 8 + k.1) = if i.1 ≠ k.1 ∧ i.1 < N.1 ∧ k.1 < N.1 then 1 else 0 := by decide +kernel
    rw [key ⟨N, by omega⟩ (by show 2 ≤ N; omega) ⟨i, hi⟩ ⟨k, hk⟩]
    by_cases h' : i ≠ k ∧ i < N ∧ k < N
    · rw [if_pos h', if_pos (by omega)]
    · rw [if_neg h', if_neg (by omega)]
  · have : prs n = [] := by unfold prs; rw [if_neg h]
    rw [this, if_neg (by omega)]
    rfl

theorem back (n node turn : Int) (h : peerOk n node turn = true) : turnOk n node (peerV n node turn) = true ∧ (turnV n node (peerV n node turn) == turn % (n - 1)) = true := by
  unfold peerOk at h
  have h := of_decide_eq_true h
  obtain ⟨N, rfl⟩ := Int.eq_ofNat_of_zero_le (show 0 ≤ n by omega)
  obtain ⟨i, rfl⟩ := Int.eq_ofNat_of_zero_le (show 0 ≤ node by omega)
  have hp : peerV N i turn = (i + 1 + turn % ((N : Int) - 1)) % N := if_pos h
  have m1 := Int.emod_nonneg turn (show (N : Int) - 1 ≠ 0 by omega)
  have m2 := Int.emod_lt_of_pos turn (show 0 < (N : Int) - 1 by omega)
  rw [hp]
  generalize turn % ((N : Int) - 1) = τ at *
  unfold turnOk turnV
  rw [beq_iff_eq]
  by_cases hh : (i : Int) + 1 + τ < N
  · rw [Int.emod_eq_of_lt (by omega) hh]
    refine ⟨decide_eq_true (by omega), ?_⟩
    rw [if_pos (by omega), show ((i : Int) + 1 + τ - i - 1 + N) = τ + N by omega, Int.add_emod_right, Int.emod_eq_of_lt (by omega) (by omega)]
  · have e : ((i : Int) + 1 + τ) % N = i + 1 + τ - N := by
      rw [show (i : Int) + 1 + τ = (i + 1 + τ - N) + N by omega, Int.add_emod_right, Int.emod_eq_of_lt (by omega) (by omega)]; omega
    rw [e]
    refine ⟨decide_eq_true (by omega), ?_⟩
    rw [if_pos (by omega), show ((i : Int) + 1 + τ - N - i - 1 + N) = τ by omega, Int.emod_eq_of_lt (by omega) (by omega)]

set_option maxRecDepth 100000 in
set_option maxHeartbeats 2000000 in
theorem once_any (n node turn : Int) (w : World) (ht : turn ≤ 9223372036854775807) :
    Calls Try.prog 4 #[.int .i64 n, .int .i64 node, .int .i64 turn] w fun e w' => e = .returned (.bool true) ∧ Below w.heap.size w w' := by
  go_enter Try.func4, Try.ntmps4
  go_wp2_with fail
  refine (first_any _).mono ?_
  rintro e w1 ⟨rfl, hB1⟩
  go_wp2_with fail
  refine (lawround_any n 1000 _).mono ?_
  rintro e w2 ⟨va, vb, rfl, ra, rb, hB2⟩
  have hpl := prs_len n
  rw [List.take_of_length_le (by simp; omega)] at ra rb
  obtain ⟨pa, ca, rfl⟩ := row_shape ra
  obtain ⟨pb, cb, rfl⟩ := row_shape rb
  have hB := hB1.trans (hB2.mono hB1.size)
  clear hB1 hB2
  go_wp2_with fail
  have hT0 : Tab (w2.alloc (.cells (Array.replicate 64 (.int .i64 0)) 35)) w2.heap.size (cnt []) := by
    intro c hc
    refine ⟨?_, ?_⟩
    · unfold World.cell?
      rw [World.alloc_heap_new]
      simp [hc, cnt]
    · unfold World.frozen?
      rw [World.alloc_heap_new]
      simp
  simp only [show Array.replicate 64 (Value.int .i64 0) = #[Value.int .i64 0, .int .i64 0, .int .i64 0, .int .i64 0, .int .i64 0, .int .i64 0, .int .i64 0, .int .i64 0, .int .i64 0, .int .i64 0, .int .i64 0, .int .i64 0, .int .i64 0, .int .i64 0, .int .i64 0, .int .i64 0, .int .i64 0, .int .i64 0, .int .i64 0, .int .i64 0, .int .i64 0, .int .i64 0, .int .i64 0, .int .i64 0, .int .i64 0, .int .i64 0, .int .i64 0, .int .i64 0, .int .i64 0, .int .i64 0, .int .i64 0, .int .i64 0, .int .i64 0, .int .i64 0, .int .i64 0, .int .i64 0, .int .i64 0, .int .i64 0, .int .i64 0, .int .i64 0, .int .i64 0, .int .i64 0, .int .i64 0, .int .i64 0, .int .i64 0, .int .i64 0, .int .i64 0, .int .i64 0, .int .i64 0, .int .i64 0, .int .i64 0, .int .i64 0, .int .i64 0, .int .i64 0, .int .i64 0, .int .i64 0, .int .i64 0, .int .i64 0, .int .i64 0, .int .i64 0, .int .i64 0, .int .i64 0, .int .i64 0, .int .i64 0] from rfl] at hT0
  generalize hwx : w2.alloc (.cells _ _) = w3 at hT0 ⊢
  have hBw : Below w2.heap.size w2 w3 := by rw [← hwx]; exact (Below.refl _ _).alloc (Nat.le_refl _) _
  clear hwx
  go_loopw [10, 27] (fun _ c wr => ∃ k : Nat, k ≤ (prs n).length ∧ c = .int .i64 k ∧ Tab wr w2.heap.size (cnt ((prs n).take k)) ∧ Below w2.heap.size w2 wr) (fun _ c _ => (prs n).length - (intOf c).toNat)
  case atStart => exact ⟨0, by omega, rfl, by simpa using hT0, hBw⟩
  case round =>
    obtain ⟨k, hk, rfl, hT, hBr⟩ := hrel
    by_cases hkm : k < (prs n).length
    · obtain ⟨ga, gac, e, hca, fa⟩ := row_cells_int ra (by omega)
      cases e
      obtain ⟨gb, gbc, e, hcb, fb⟩ := row_cells_int rb (by omega)
      cases e
      have hga := (ra.lt ga rfl).2
      have hgb := (rb.lt gb rfl).2
      obtain ⟨x, y, htk, hg, hx, hy, hxy⟩ := prs_get n k hkm
      have ca1 : wr.cell? ⟨ga, k, none⟩ = some (.int .i64 x) := ((hBr.cell (p := ⟨ga, k, none⟩) hga).trans (fa k hkm)).trans (by simp [hg])
      have cb1 : wr.cell? ⟨gb, k, none⟩ = some (.int .i64 y) := ((hBr.cell (p := ⟨gb, k, none⟩) hgb).trans (fb k hkm)).trans (by simp [hg])
      obtain ⟨ct, cf⟩ := hT (x * 8 + y) (by omega)
      have hcl : cnt ((prs n).take k) (x * 8 + y) ≤ 56 := Nat.le_trans (cnt_le _ _) (by simp; omega)
      have e1 : decide (k < (prs n).length) = true := decide_eq_true hkm
      have d1 : decide ((x : Int) < 0) = false := decide_eq_false (by omega)
      have d2 : decide (7 < (x : Int)) = false := decide_eq_false (by omega)
      have d3 : decide ((y : Int) < 0) = false := decide_eq_false (by omega)
      have d4 : decide (7 < (y : Int)) = false := decide_eq_false (by omega)
      have d5 : ((x : Int) == (y : Int)) = false := by rw [beq_eq_false_iff_ne]; omega
      have bx : (0 : Int) ≤ x ∧ (x : Int) < 8 := by omega
      have by' : (0 : Int) ≤ y ∧ (y : Int) < 8 := by omega
      clear fa fb ra rb
      have HT := Lib.hid hT
      have Htk := Lib.hid htk
      have Hg := Lib.hid hg
      clear hT htk hg
      go_wp2_with fail
      go_quiet (fail)
      go_wp2_with fail
      refine wp_region_still_tail 14 (by kernel_rfl) (by kernel_rfl) ?_
      simp only [List.take_succ_cons, List.take_zero, List.drop_succ_cons, List.drop_zero]
      have keepc : ∀ p, (World.drew (World.drewN wr nq)).cell? p = wr.cell? p := fun _ => rfl
      have keepf : ∀ p, (World.drew (World.drewN wr nq)).frozen? p = wr.frozen? p := fun _ => rfl
      have hTd : Tab (World.drew (World.drewN wr nq)) w2.heap.size (cnt ((prs n).take k)) := HT.out
      have hBd : Below w2.heap.size w2 (World.drew (World.drewN wr nq)) := (below_drewN hBr nq).drew
      change wpStill _ _ (World.drew (World.drewN wr nq)) (fun a' => wpList _ _ _ _ a' (World.drew (World.drewN wr nq))) _ _
      rw [← keepc] at ca1 cb1 ct
      rw [← keepf] at cf
      have HT := Lib.hid hTd
      clear keepc keepf hTd hBr
      generalize World.drew (World.drewN wr nq) = wd at *
      repeat still_step
      refine wpStill_nil ?_
      go_wp2_with fail
      refine ⟨⟨k + 1, by omega, by go_num, ?_, hBd.setCell (by simp) _⟩, by simp [intOf]; omega⟩
      have hs := HT.out.step (c0 := x * 8 + y) (v := (cnt ((prs n).take k) (x * 8 + y) : Int) + 1) rfl
      have he : cnt ((prs n).take (k + 1)) = fun c => cnt ((prs n).take k) c + if x * 8 + y = c then 1 else 0 := by
        funext c; rw [Htk.out, cnt_snoc]
      rw [he]
      exact hs
    · have hkl : k = (prs n).length := by omega
      rw [hkl, List.take_of_length_le (Nat.le_refl _)] at hT
      have e1 : decide (k < (prs n).length) = false := decide_eq_false hkm
      have HT := Lib.hid hT
      clear hT0 hBw hT hkl
      go_wp2_with fail
      go_loop [11, 12, 13, 82] (fun _ _ _ c => ∃ i : Nat, i ≤ 8 ∧ c = .int .i64 i) (fun _ _ _ c => 8 - (intOf c).toNat)
      case atStart => exact ⟨0, by omega, rfl⟩
      case round =>
        obtain ⟨i, hi, rfl⟩ := hrel
        by_cases hi8 : i < 8
        · have f1 : (i : Int) < 8 := by omega
          go_wp2_with fail
          go_loop [12, 13, 85] (fun _ _ c => ∃ j : Nat, j ≤ 8 ∧ c = .int .i64 j) (fun _ _ c => 8 - (intOf c).toNat)
          case atStart => exact ⟨0, by omega, rfl⟩
          case round =>
            obtain ⟨j, hj, rfl⟩ := hrel
            by_cases hj8 : j < 8
            · have f2 : (j : Int) < 8 := by omega
              have hct' := (HT.out (i * 8 + j) (by omega)).1
              rw [cnt_all n i j hi8 hj8] at hct'
              by_cases hf : 2 ≤ n ∧ n ≤ 8
              · have hft : fits n = true := decide_eq_true hf
                have Hct' := Lib.hid hct'
                clear hct'
                go_wp2_with fail
                refine (fits_any n _).mono ?_
                rintro e w4 ⟨rfl, rfl⟩
                rw [hft]
                clear hft
                have hct' := Hct'.out
                by_cases hij : i = j
                · subst hij
                  have g1 : ((i : Int) != (i : Int)) = false := by simp
                  have hct : wr.cell? ⟨w2.heap.size, i * 8 + i, none⟩ = some (.int .i64 0) := by rw [hct', if_neg (by omega)]; rfl
                  clear hct'
                  go_wp2_with fail
                  go_round
                  case rel => exact ⟨i + 1, by omega, by go_num⟩
                  case measure => simp [intOf]; omega
                · have g1 : ((i : Int) != (j : Int)) = true := by rw [bne_iff_ne]; omega
                  by_cases hin : (i : Int) < n
                  · have g2 : decide ((i : Int) < n) = true := decide_eq_true hin
                    by_cases hjn : (j : Int) < n
                    · have g3 : decide ((j : Int) < n) = true := decide_eq_true hjn
                      have hct : wr.cell? ⟨w2.heap.size, i * 8 + j, none⟩ = some (.int .i64 1) := by rw [hct', if_pos (by omega)]; rfl
                      clear hct'
                      go_wp2_with fail
                      go_round
                      case rel => exact ⟨j + 1, by omega, by go_num⟩
                      case measure => simp [intOf]; omega
                    · have g3 : decide ((j : Int) < n) = false := decide_eq_false hjn
                      have hct : wr.cell? ⟨w2.heap.size, i * 8 + j, none⟩ = some (.int .i64 0) := by rw [hct', if_neg (by omega)]; rfl
                      clear hct'
                      go_wp2_with fail
                      go_round
                      case rel => exact ⟨j + 1, by omega, by go_num⟩
                      case measure => simp [intOf]; omega
                  · have g2 : decide ((i : Int) < n) = false := decide_eq_false hin
                    have hct : wr.cell? ⟨w2.heap.size, i * 8 + j, none⟩ = some (.int .i64 0) := by rw [hct', if_neg (by omega)]; rfl
                    clear hct'
                    go_wp2_with fail
                    go_round
                    case rel => exact ⟨j + 1, by omega, by go_num⟩
                    case measure => simp [intOf]; omega
              · have hft : fits n = false := decide_eq_false hf
                have hct : wr.cell? ⟨w2.heap.size, i * 8 + j, none⟩ = some (.int .i64 0) := by rw [hct', if_neg (by omega)]; rfl
                have Hct := Lib.hid hct
                clear hct' hct
                go_wp2_with fail
                refine (fits_any n _).mono ?_
                rintro e w4 ⟨rfl, rfl⟩
                rw [hft]
                clear hft
                have hct := Hct.out
                go_wp2_with fail
                go_round
                case rel => exact ⟨j + 1, by omega, by go_num⟩
                case measure => simp [intOf]; omega
            · have f2 : ¬ (j : Int) < 8 := by omega
              go_wp2_with fail
              go_round
              case rel => exact ⟨i + 1, by omega, by go_num⟩
              case measure => simp [intOf]; omega
        · have f1 : ¬ (i : Int) < 8 := by omega
          have HBq : Below w.heap.size w wr := hB.trans (hBr.mono hB.size)
          go_wp2_with fail
          refine (peer_any n node turn _ ht).mono ?_
          rintro e w4 ⟨rfl, rfl⟩
          by_cases hok : peerOk n node turn = true
          · obtain ⟨b1, b2⟩ := back n node turn hok
            have hn := of_decide_eq_true hok
            rw [hok]
            clear hok
            generalize hpv : peerV n node turn = pv at *
            clear hpv
            go_wp2_with fail
            refine (turn_any n node pv _).mono ?_
            rintro e w4 ⟨rfl, rfl⟩
            rw [b1]
            clear b1
            obtain ⟨n1, n2, n3, n4, n5⟩ := hn
            go_wp2_with fail
            go_ret
            exact ⟨rfl, HBq⟩
          · rw [Bool.eq_false_iff.2 hok]
            go_wp2_with fail
            go_ret
            exact ⟨rfl, HBq⟩
