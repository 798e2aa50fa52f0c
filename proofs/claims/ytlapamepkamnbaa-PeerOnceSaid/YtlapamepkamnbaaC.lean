/- What must be answered ahead of everything else, and the reference's pairs.
   Conditions: none, and 2 ≤ n ≤ 8. -/
import Derived.Test.YtlapamepkamnbaaB
namespace Go.Proofs.Ytlapamepkamnbaa
open Go.RowKit Go.Shelf Go.Rg

theorem row_cells_int {w : World} {base : Nat} {v : Value} {n : Nat} {xs : List Value} (h : w.ownsRow base 3 1 v n xs) (h0 : 0 < n) : ∃ g cap, v = .slice (some ⟨g, 0, none⟩) n cap ∧ n ≤ cap ∧ ∀ j, j < n → w.cell? ⟨g, j, none⟩ = xs[j]? := by
  rcases h.2 with ⟨_, h1⟩ | ⟨g, cap, cur, rfl, hb, hg, hc, hrest⟩
  · omega
  · exact ⟨g, cap, rfl, hc, fun j hj => h.cellAt j (by omega)⟩

set_option maxRecDepth 100000 in
set_option maxHeartbeats 1000000 in
theorem first_any (w : World) : Calls Try.prog 5 #[] w fun e w' => e = .returned (.bool true) ∧ Below w.heap.size w w' := by
  go_enter Try.func5, Try.ntmps5
  go_wp2_with fail
  refine (lawround_any 3 99 _).mono ?_
  rintro e w1 ⟨va, vb, rfl, ra, rb, hB⟩
  have ex : (prs 3).take (Int.toNat 99) = [(0, 1), (1, 2), (2, 0), (0, 2), (1, 0), (2, 1)] := by decide
  rw [ex] at ra rb
  obtain ⟨ga, ca, rfl, hca, fa⟩ := row_cells_int ra (by decide)
  obtain ⟨gb, cb, rfl, hcb, fb⟩ := row_cells_int rb (by decide)
  have a3 : w1.cell? ⟨ga, 3, none⟩ = some (.int .i64 0) := fa 3 (by decide)
  have b3 : w1.cell? ⟨gb, 3, none⟩ = some (.int .i64 2) := fb 3 (by decide)
  clear fa fb ex ra rb
  go_wp2_with fail
  refine (peer_any 3 2 0 _ (by omega)).mono ?_
  rintro e w2 ⟨rfl, rfl⟩
  rw [show peerV 3 2 0 = 0 by decide, show peerOk 3 2 0 = true by decide]
  go_wp2_with fail
  refine (turn_any 3 0 2 _).mono ?_
  rintro e w2 ⟨rfl, rfl⟩
  rw [show turnV 3 0 2 = 1 by decide, show turnOk 3 0 2 = true by decide]
  go_wp2_with fail
  refine (sess_any 3 2 _).mono ?_
  rintro e w2 ⟨rfl, rfl⟩
  rw [show sessV 3 2 = 12 by decide]
  go_wp2_with fail
  refine (fits_any 8 _).mono ?_
  rintro e w2 ⟨rfl, rfl⟩
  rw [show fits 8 = true by decide]
  go_wp2_with fail
  refine (fits_any 1 _).mono ?_
  rintro e w2 ⟨rfl, rfl⟩
  rw [show fits 1 = false by decide]
  go_wp2_with fail
  go_ret
  exact ⟨rfl, hB⟩

theorem prAt_ref (N τ i : Nat) (ht : τ + 1 < N) (hi : i < N) : prAt N (τ * N + i) = ((i : Int), if N ≤ i + (τ + 1) then ((i + (τ + 1) - N : Nat) : Int) else ((i + (τ + 1) : Nat) : Int)) := by
  have e1 : (τ * N + i) % N = i := by rw [Nat.mul_comm, Nat.mul_add_mod, Nat.mod_eq_of_lt hi]
  have e2 : (τ * N + i) / N = τ := by rw [Nat.mul_comm, Nat.mul_add_div (by omega), Nat.div_eq_of_lt hi]; rfl
  unfold prAt
  rw [e1, e2]
  split
  · rename_i h
    have : (i + 1 + τ) % N = i + (τ + 1) - N := by rw [Nat.mod_eq_sub_mod (by omega), Nat.mod_eq_of_lt (by omega)]; omega
    rw [this]
  · rename_i h
    have : (i + 1 + τ) % N = i + (τ + 1) := by rw [Nat.mod_eq_of_lt (by omega)]; omega
    rw [this]

def Rows2 (W : World) (base : Nat) (va vb : Value) (l : List (Int × Int)) : Prop :=
  W.ownsRow base 3 1 va l.length (l.map fun x => .int .i64 x.1) ∧ W.ownsRow base 3 1 vb l.length (l.map fun x => .int .i64 x.2) ∧ (va.ownBlock = none ∨ va.ownBlock ≠ vb.ownBlock)

/-- Both rows, one element further. -/
theorem Rows2.step {W W1 W2 : World} {base : Nat} {va vb va' vb' : Value} {l : List (Int × Int)} {o o' : Obj} {x y : Int} (h : Rows2 W base va vb l)
    (ha : W1.ownsRow base 3 1 va' (l.length + 1) ((l.map fun x => Value.int .i64 x.1) ++ [.int .i64 x])) (ba : va'.ownBlock = va.ownBlock ∨ va'.ownBlock = some (W.alloc o).heap.size)
    (hb : W2.ownsRow base 3 1 vb' (l.length + 1) ((l.map fun x => Value.int .i64 x.2) ++ [.int .i64 y])) (gb : (W1.alloc o').grownBy W2 vb.ownBlock) (bb : vb'.ownBlock = vb.ownBlock ∨ vb'.ownBlock = some (W1.alloc o').heap.size) :
    Rows2 W2 base va' vb' (l ++ [(x, y)]) := by
  obtain ⟨h1, h2, h3⟩ := h
  have hne : va'.ownBlock ≠ vb.ownBlock := by
    rcases ba with e | e
    · rw [e]
      obtain ⟨g, c, rfl⟩ := ownsRow_succ ha
      rcases h3 with h0 | h0
      · rw [h0] at e; cases e
      · exact h0
    · rw [e]
      intro h0
      have := (h2.lt _ h0.symm).2
      simp at this
      omega
  have ha2 : W2.ownsRow base 3 1 va' (l.length + 1) ((l.map fun x => Value.int .i64 x.1) ++ [.int .i64 x]) := (ha.alloc o').kept gb (.inr hne)
  refine ⟨by simpa using ha2, by simpa using hb, .inr ?_⟩
  rcases bb with e | e
  · rw [e]; exact hne
  · rw [e]
    intro h0
    have := (ha.lt _ h0).2
    simp at this
    omega

/-- The first row is written: the second is as it was. -/
theorem Rows2.second {W W1 : World} {base : Nat} {va vb : Value} {l : List (Int × Int)} {o : Obj} (h : Rows2 W base va vb l) (ga : (W.alloc o).grownBy W1 va.ownBlock) :
    W1.ownsRow base 3 1 vb l.length (l.map fun x => .int .i64 x.2) := by
  refine (h.2.1.alloc o).kept ga ?_
  rcases h.2.2 with h0 | h0
  · rw [h0]; cases vb.ownBlock <;> simp
  · exact .inr (fun e => h0 e.symm)

set_option maxRecDepth 100000 in
set_option maxHeartbeats 1000000 in
theorem pairs_any (N : Nat) (h2 : 2 ≤ N) (h8 : N ≤ 8) (w : World) : Calls Try.prog 11 #[.int .i64 N] w fun e w' => ∃ va vb, e = .returned (.tuple #[va, vb]) ∧ Rows2 w' w.heap.size va vb (upto N ((N - 1) * N)) ∧ Below w.heap.size w w' := by
  obtain ⟨i0, hi0, hz0, hz1, hz2⟩ := info_parts info3
  have hmul : ∀ m, m ≤ N - 1 → m * N ≤ 56 := fun m hm => Nat.le_trans (Nat.mul_le_mul hm h8) (by omega)
  go_enter Try.func11, Try.ntmps11
  go_wp2_with fail
  go_loopw [4, 5, 6] (fun va vb t wr => ∃ τ : Nat, τ ≤ N - 1 ∧ t = .int .i64 ((τ : Int) + 1) ∧ Rows2 wr w.heap.size va vb (upto N (τ * N)) ∧ Below w.heap.size w wr) (fun _ _ t _ => N - (intOf t).toNat)
  case atStart => exact ⟨0, by omega, rfl, ⟨by simpa [upto] using World.ownsRow_nil _ _ _ _, by simpa [upto] using World.ownsRow_nil _ _ _ _, .inl rfl⟩, Below.refl _ _⟩
  case round =>
    obtain ⟨τ, hτ, rfl, hr, hB⟩ := hrel
    by_cases ht : τ + 1 < N
    · have e1 : decide ((τ : Int) + 1 < (N : Int)) = true := by simp; omega
      go_wp2_with fail
      go_loopw [4, 5, 7, 8] (fun va vb i _ wr => ∃ k : Nat, k ≤ N ∧ i = .int .i64 k ∧ Rows2 wr w.heap.size va vb (upto N (τ * N + k)) ∧ Below w.heap.size w wr) (fun _ _ i _ _ => N - (intOf i).toNat)
      case atStart => exact ⟨0, by omega, rfl, hr, hB⟩
      case round =>
        obtain ⟨k, hk, rfl, hr, hB⟩ := hrel
        by_cases hkl : k < N
        · have e2 : decide ((k : Int) < (N : Int)) = true := by simp; omega
          have hp := prAt_ref N τ k ht hkl
          have hlen : (upto N (τ * N + k)).length ≤ 64 := by rw [upto_len]; have := hmul τ hτ; omega
          have hb0 := hB.size
          have hstep := upto_succ N (τ * N + k)
          rw [hp] at hstep
          have HS := Lib.hid hstep
          clear hstep hp
          by_cases hw : N ≤ k + (τ + 1)
          · rw [if_pos hw] at HS
            have e3 : decide ((N : Int) ≤ (k : Int) + ((τ : Int) + 1)) = true := by simp; omega
            go_wp2_with (first
              | (at_builtin; refine wpList_append_own_at _ rfl (.tmp 28) (.tmp 30) 25 rfl w.heap.size 3 i0 (.int .i64 0) 1 8 Try.underlying25 hi0 hz0 hz1 hz2 rfl (by decide) u4 _ _ rfl (hr.1.alloc _) ⟨wr.heap.size, 0, none⟩ 1 1 [.int .i64 k] rfl rfl (cell_one_new _ _ _) (by simp [Value.oneCell']) (by unfold maxLen; omega) (by omega) (by simp; omega) ?_; intro va' w1 ha' ga' _ ba'; have hr2 := hr.second ga'; have hb1 := ga'.size)
              | (at_builtin; refine wpList_append_own_at _ rfl (.tmp 32) (.tmp 34) 25 rfl w.heap.size 3 i0 (.int .i64 0) 1 8 Try.underlying25 hi0 hz0 hz1 hz2 rfl (by decide) u5 _ _ rfl (hr2.alloc _) ⟨w1.heap.size, 0, none⟩ 1 1 [.int .i64 ((k : Int) + ((τ : Int) + 1) - (N : Int))] rfl rfl (cell_one_new _ _ _) (by simp [Value.oneCell']) (by unfold maxLen; omega) (by omega) (by simp at hb1 ⊢; omega) ?_; intro vb' w2 hb' gb' _ bb'))
            have hfin := hr.step ha' ba' hb' gb' bb'
            have hB2 : Below w.heap.size w w2 := (((hB.alloc hb0 _).grown ga' (by simp; omega) (fun b e => (hr.1.lt b e).1)).alloc (by simp at hb1 ⊢; omega) _).grown gb' (by simp at hb1 ⊢; omega) (fun b e => (hr2.lt b e).1)
            go_roundw
            case rel => exact ⟨k + 1, by omega, by go_num, by rw [show τ * N + (k + 1) = τ * N + k + 1 from rfl, HS.out, show ((k + (τ + 1) - N : Nat) : Int) = (k : Int) + ((τ : Int) + 1) - (N : Int) by omega]; exact hfin, hB2⟩
            case measure => simp [intOf]; omega
          · rw [if_neg hw] at HS
            have e3 : decide ((N : Int) ≤ (k : Int) + ((τ : Int) + 1)) = false := by simp; omega
            go_wp2_with (first
              | (at_builtin; refine wpList_append_own_at _ rfl (.tmp 28) (.tmp 30) 25 rfl w.heap.size 3 i0 (.int .i64 0) 1 8 Try.underlying25 hi0 hz0 hz1 hz2 rfl (by decide) u4 _ _ rfl (hr.1.alloc _) ⟨wr.heap.size, 0, none⟩ 1 1 [.int .i64 k] rfl rfl (cell_one_new _ _ _) (by simp [Value.oneCell']) (by unfold maxLen; omega) (by omega) (by simp; omega) ?_; intro va' w1 ha' ga' _ ba'; have hr2 := hr.second ga'; have hb1 := ga'.size)
              | (at_builtin; refine wpList_append_own_at _ rfl (.tmp 32) (.tmp 34) 25 rfl w.heap.size 3 i0 (.int .i64 0) 1 8 Try.underlying25 hi0 hz0 hz1 hz2 rfl (by decide) u5 _ _ rfl (hr2.alloc _) ⟨w1.heap.size, 0, none⟩ 1 1 [.int .i64 ((k : Int) + ((τ : Int) + 1))] rfl rfl (cell_one_new _ _ _) (by simp [Value.oneCell']) (by unfold maxLen; omega) (by omega) (by simp at hb1 ⊢; omega) ?_; intro vb' w2 hb' gb' _ bb'))
            have hfin := hr.step ha' ba' hb' gb' bb'
            have hB2 : Below w.heap.size w w2 := (((hB.alloc hb0 _).grown ga' (by simp; omega) (fun b e => (hr.1.lt b e).1)).alloc (by simp at hb1 ⊢; omega) _).grown gb' (by simp at hb1 ⊢; omega) (fun b e => (hr2.lt b e).1)
            go_roundw
            case rel => exact ⟨k + 1, by omega, by go_num, by rw [show τ * N + (k + 1) = τ * N + k + 1 from rfl, HS.out, show ((k + (τ + 1) : Nat) : Int) = (k : Int) + ((τ : Int) + 1) by omega]; exact hfin, hB2⟩
            case measure => simp [intOf]; omega
        · have e2 : decide ((k : Int) < (N : Int)) = false := by simp; omega
          obtain rfl : k = N := by omega
          go_wp2_with fail
          go_roundw
          case rel => exact ⟨τ + 1, by omega, by go_num, by rw [Nat.succ_mul]; exact hr, hB⟩
          case measure => simp [intOf]; omega
    · have e1 : decide ((τ : Int) + 1 < (N : Int)) = false := by simp; omega
      obtain rfl : τ = N - 1 := by omega
      go_wp2_with fail
      go_ret2
      exact ⟨_, _, rfl, hr, hB⟩
end Go.Proofs.Ytlapamepkamnbaa
