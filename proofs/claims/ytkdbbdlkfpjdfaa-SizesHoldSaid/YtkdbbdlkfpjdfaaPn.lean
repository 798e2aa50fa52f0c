/- Package pen.
   Conditions: those that each theorem names. -/
import Derived.Test.YtkdbbdlkfpjdfaaBs
import Derived.Lib.SmallJoins
/- Contracts of package pen: copies, sizes, the numbers of signed ones.
   Conditions: those that each theorem names. -/
namespace Go.Proofs.Ytkdbbdlkfpjdfaa
set_option maxRecDepth 100000
set_option linter.unusedVariables false
set_option linter.unusedSimpArgs false
set_option linter.unusedVariables false
set_option linter.unusedSimpArgs false
open Go.RowKit Go.Rg
attribute [local go_sem] Rg.q_add Rg.q_add' Rg.q_xor Rg.q_or Rg.q_and ba_app
/-- The digits of a number, in a system of 256, the greatest first. -/
def beB : Nat → List UInt8
  | 0 => []
  | n + 1 => beB ((n + 1) / 256) ++ [UInt8.ofNat ((n + 1) % 256)]
decreasing_by exact Nat.div_lt_self (by omega) (by omega)
def digits (n : Nat) : Nat := (beB n).length
def sizeN (n : Nat) : Nat := if n ≤ 247 then 1 else 1 + digits n
def zigN (n : Int) : UInt64 := UInt64.ofNat (if n < 0 then 2 * (-(n + 1)).toNat + 1 else 2 * n.toNat)
def zagN (u : UInt64) : Int := if u.toNat % 2 = 1 then -((u.toNat / 2 : Nat) : Int) - 1 else ((u.toNat / 2 : Nat) : Int)
theorem beB_zero : beB 0 = [] := by rw [beB]
theorem beB_pos (n : Nat) (h : n ≠ 0) : beB n = beB (n / 256) ++ [UInt8.ofNat (n % 256)] := by
  cases n with
  | zero => exact absurd rfl h
  | succ n => rw [beB]
theorem digits_zero : digits 0 = 0 := by unfold digits; rw [beB_zero]; rfl
theorem digits_pos (n : Nat) (h : n ≠ 0) : digits n = digits (n / 256) + 1 := by unfold digits; rw [beB_pos n h]; simp
theorem digits_lt (k n : Nat) (h : n < 256 ^ k) : digits n ≤ k := by
  induction k generalizing n with
  | zero => simp at h; subst h; rw [digits_zero]; omega
  | succ k ih =>
    by_cases h0 : n = 0
    · subst h0; rw [digits_zero]; omega
    · rw [digits_pos n h0]
      have := ih (n / 256) (by rw [Nat.pow_succ] at h; omega)
      omega
set_option maxRecDepth 100000 in
set_option maxHeartbeats 2000000 in
/-- A copy: owned, in a block of its own. -/
theorem bytes_clone (v : Value) (l : List UInt8) (w : World) (h : BytesAt w v l) (hn : l.length ≤ 1000000000000) :
    Calls Try.prog 70 #[v] w fun e w' => ∃ v', e = .returned v' ∧ OwnB w' v' l ∧ (∀ k, v'.ownBlock = some k → w.heap.size ≤ k) ∧ Below w.heap.size w w' := by
  obtain ⟨p, cap, rfl, hf⟩ := id h
  obtain ⟨i0, hi0, hz0, hz1, hz2⟩ := info_parts infoC
  have q29 : ∀ (w : World) (a : Option Addr) (n c n' c' : Nat), (binOp .eql 41 (.slice a n c) (.slice none n' c')).run Try.prog w = .ok (.bool a.isNone) w := fun w a n c n' c' => Lib.run_eql_slice_nil w _ _ a n c n' c' Try.underlying41
  go_enter Try.func70, Try.ntmps70
  cases p with
  | none =>
    have h0 : l = [] := by
      cases l with
      | nil => rfl
      | cons c l => obtain ⟨g, o, e, _⟩ := hf 0 (by simp); cases e
    subst h0
    go_wp2_with fail
    go_ret
    refine ⟨.slice none 0 0, rfl, OwnB.nil _, ?_, Below.refl _ _⟩
    intro k hk
    simp [Value.ownBlock] at hk
  | some ad =>
    have hr : (w.alloc (.cells #[] 5)).ownsRow w.heap.size 5 1 (.slice (some ⟨w.heap.size, 0, none⟩) 0 0) 0 [] := World.ownsRow_made w #[] 0 (Nat.le_refl _) (Nat.zero_le _) rfl
    have hB := (Below.refl w.heap.size w).alloc (Nat.le_refl _) (.cells #[] 5)
    have HC := Lib.hid (h.below hB).cells
    have hm : 0 + l.length ≤ maxLen := by unfold maxLen; omega
    have hm2 : (0 + l.length) * 1 ≤ 140737488355328 := by omega
    clear hf
    go_wp2_with (at_builtin; refine wpList_append_own_at _ rfl _ _ 41 rfl w.heap.size 5 i0 (.int .u8 0) 1 1 Try.underlying41 hi0 hz0 hz1 hz2 rfl (by decide) _ 0 [] rfl hr ad l.length cap (l.map byteV) rfl (by simp) HC.out (bytes_oneCell l) hm hm2 hB.size ?_)
    intro v' w' ho hg hni hat
    have hB2 : Below w.heap.size w w' := hB.grown hg hB.size (fun k hk => by cases hk; exact Nat.le_refl _)
    go_wp2_with fail
    go_ret
    refine ⟨v', rfl, ?_, ?_, hB2⟩
    · have := row_base (base' := 0) ho (Nat.zero_le _)
      simpa [OwnB] using this
    · intro k hk
      exact (World.ownsRow.lt ho k hk).1
theorem q_not (x : UInt64) : bits .xor .u64 IntKind.u64.max (U x) = 18446744073709551615 - U x := by
  rw [show IntKind.u64.max = U 18446744073709551615 from rfl, q_xor]
  have h : 18446744073709551615 ^^^ x = 18446744073709551615 - x := by
    apply UInt64.toBitVec_inj.1
    show BitVec.allOnes 64 ^^^ x.toBitVec = BitVec.allOnes 64 - x.toBitVec
    rw [BitVec.allOnes_sub_eq_not, BitVec.allOnes_xor]
  rw [h]
  have := x.toNat_lt
  unfold U
  rw [UInt64.toNat_sub_of_le _ _ (by rw [UInt64.le_iff_toNat_le]; show x.toNat ≤ 18446744073709551615; omega)]
  show ((18446744073709551615 - x.toNat : Nat) : Int) = _
  omega
theorem U_nat (n : Nat) (h : n < 18446744073709551616) : U (UInt64.ofNat n) = (n : Int) := by unfold U; rw [UInt64.toNat_ofNat', Nat.mod_eq_of_lt h]
theorem zig_any (n : Int) (w : World) (hn : -9223372036854775808 ≤ n ∧ n ≤ 9223372036854775807) : Calls Try.prog 95 #[.int .i64 n] w fun e w' => e = .returned (.int .u64 (U (zigN n))) ∧ w = w' := by
  have hz : U (zigN n) = if n < 0 then 2 * (-(n + 1)) + 1 else 2 * n := by
    unfold zigN
    rw [U_nat _ (by split <;> omega)]
    split <;> omega
  go_enter Try.func95, Try.ntmps95
  by_cases h : n < 0
  · have e1 : decide (n < 0) = true := decide_eq_true h
    have w1 : IntKind.u64.wrap n = n + 18446744073709551616 := by rw [wrap_u64]; omega
    have w2 : IntKind.u64.wrap ((n + 18446744073709551616) * 2) = U (UInt64.ofNat (18446744073709551616 + 2 * n).toNat) := by rw [wrap_u64, U_nat _ (by omega)]; omega
    have w3 := q_not (UInt64.ofNat (18446744073709551616 + 2 * n).toNat)
    have w4 : 18446744073709551615 - U (UInt64.ofNat (18446744073709551616 + 2 * n).toNat) = U (zigN n) := by rw [U_nat _ (by omega), hz, if_pos h]; omega
    go_wp2_with fail
    go_ret
    exact ⟨rfl, rfl⟩
  · have e1 : decide (n < 0) = false := decide_eq_false h
    have w4 : n * 2 = U (zigN n) := by rw [hz, if_neg h]; omega
    go_wp2_with fail
    go_ret
    exact ⟨rfl, rfl⟩
theorem zag_any (u : UInt64) (w : World) : Calls Try.prog 96 #[.int .u64 (U u)] w fun e w' => e = .returned (.int .i64 (zagN u)) ∧ w = w' := by
  have b1 : bits .and .u64 (U u) 1 = ((u.toNat % 2 : Nat) : Int) := by
    rw [show (1 : Int) = U 1 from rfl, q_and]
    unfold U
    rw [UInt64.toNat_and, show (1 : UInt64).toNat = 1 from rfl, Nat.and_one_is_mod]
  have hU : U u / 2 = ((u.toNat / 2 : Nat) : Int) := by unfold U; omega
  have hlt := u.toNat_lt
  have x1 : bits .xor .u64 IntKind.u64.max (U u / 2) = 18446744073709551615 - U u / 2 := by
    rw [hU, ← U_nat (u.toNat / 2) (by omega)]; exact q_not _
  go_enter Try.func96, Try.ntmps96
  by_cases h : u.toNat % 2 = 1
  · have x2 : wrap64 (18446744073709551615 - U u / 2) = zagN u := by rw [hU]; unfold zagN; rw [if_pos h]; unfold wrap64; omega
    have b2 : (bits .and .u64 (U u) 1 == 1) = true := by rw [b1, h]; rfl
    clear hU b1 h
    go_wp2_with fail
    go_ret
    exact ⟨rfl, rfl⟩
  · have x2 : wrap64 (U u / 2) = zagN u := by rw [hU]; unfold zagN; rw [if_neg h]; unfold wrap64; omega
    have b2 : (bits .and .u64 (U u) 1 == 1) = false := by rw [b1, show u.toNat % 2 = 0 by omega]; rfl
    clear hU b1 h
    go_wp2_with fail
    go_ret
    exact ⟨congrArg (fun z => Ending.returned (Value.int .i64 z)) x2, rfl⟩
theorem size_any (u : UInt64) (w : World) : Calls Try.prog 105 #[.int .u64 (U u)] w fun e w' => e = .returned (.int .i64 (sizeN u.toNat : Nat)) ∧ w = w' := by
  go_enter Try.func105, Try.ntmps105
  by_cases h : u.toNat ≤ 247
  · have e1 : decide (U u ≤ 247) = true := decide_eq_true (by unfold U; omega)
    go_wp2_with fail
    go_ret
    exact ⟨by unfold sizeN; rw [if_pos h]; rfl, rfl⟩
  · have e1 : decide (U u ≤ 247) = false := decide_eq_false (by unfold U; omega)
    have hlt := u.toNat_lt
    go_wp2_with fail
    go_loopw [0, 3] (fun v n wr => wr = w ∧ ∃ (x : UInt64) (k : Nat), v = .int .u64 (U x) ∧ n = .int .i64 k ∧ k + digits x.toNat = sizeN u.toNat) (fun v _ _ => (intOf v).toNat)
    case atStart => exact ⟨rfl, u, 1, rfl, rfl, by unfold sizeN; rw [if_neg h]⟩
    case round =>
      obtain ⟨rfl, x, k, rfl, rfl, hk⟩ := hrel
      have hk8 : sizeN u.toNat ≤ 9 := by
        unfold sizeN; rw [if_neg h]; have := digits_lt 8 u.toNat (by omega); omega
      have hx := x.toNat_lt
      by_cases h0 : x.toNat = 0
      · have e2 : decide (0 < U x) = false := decide_eq_false (by unfold U; omega)
        go_wp2_with fail
        go_ret
        rw [h0, digits_zero] at hk
        exact ⟨by rw [← hk]; rfl, rfl⟩
      · have e2 : decide (0 < U x) = true := decide_eq_true (by unfold U; omega)
        have hd := digits_pos x.toNat h0
        have e3 : U x / 256 = U (x / 256) := by unfold U; rw [UInt64.toNat_div]; rfl
        go_wp2_with fail
        refine ⟨⟨trivial, x / 256, k + 1, rfl, by go_num, ?_⟩, ?_⟩
        · rw [UInt64.toNat_div, show (256 : UInt64).toNat = 256 from rfl]; omega
        · simp only [intOf]; unfold U; rw [UInt64.toNat_div, show (256 : UInt64).toNat = 256 from rfl]; omega
end Go.Proofs.Ytkdbbdlkfpjdfaa

/- Contracts of package pen: what a pen writes.
   Conditions: those that each theorem names. -/
namespace Go.Proofs.Ytkdbbdlkfpjdfaa
set_option maxRecDepth 100000
set_option linter.unusedVariables false
set_option linter.unusedSimpArgs false
set_option linter.unusedVariables false
set_option linter.unusedSimpArgs false
open Go.RowKit Go.Rg
attribute [local go_sem] Rg.q_add Rg.q_add' Rg.q_xor Rg.q_or Rg.q_and ba_app
/-- A pen: its block, its row's block, what it has written. -/
def PenAt (b : Nat) (r : Option Nat) (l : List UInt8) (W : World) : Prop :=
  ∃ v, W.heap[b]? = some (.cells #[v] 44 (0, 0)) ∧ v.ownBlock = r ∧ OwnB W v l
/-- A row's block that may be new. -/
def NewB (n : Nat) (r r' : Option Nat) : Prop := r' = r ∨ ∃ k, r' = some k ∧ n ≤ k
theorem NewB.refl (n : Nat) (r : Option Nat) : NewB n r r := .inl rfl
theorem NewB.trans {n m : Nat} {r s t : Option Nat} (h : NewB n r s) (k : NewB m s t) (hnm : n ≤ m) : NewB n r t := by
  rcases k with rfl | ⟨j, rfl, hj⟩
  · exact h
  · exact .inr ⟨j, rfl, by omega⟩
abbrev PenM (b : Nat) (r : Option Nat) : Nat → Prop := fun k => k = b ∨ some k = r
theorem PenM.step {n b : Nat} {r r' : Option Nat} (h : NewB n r r') : ∀ j, j < n → PenM b r' j → PenM b r j := by
  rintro j hj (rfl | e)
  · exact .inl rfl
  · rcases h with rfl | ⟨k, rfl, hk⟩
    · exact .inr e
    · cases e; omega
theorem PenAt.keep {b : Nat} {r : Option Nat} {l : List UInt8} {W X : World} {M : Nat → Prop} (h : PenAt b r l W) (hT : Touch M W X) (hb : ¬ M b) (hr : ∀ k, r = some k → ¬ M k) : PenAt b r l X := by
  obtain ⟨v, h1, h2, h3⟩ := h
  exact ⟨v, hT.keep h1 hb, h2, h3.kept (fun g hg => hT.block g (h3.lt hg) (hr g (h2 ▸ hg)))⟩
theorem PenAt.below {b : Nat} {r : Option Nat} {l : List UInt8} {W X : World} (h : PenAt b r l W) (hX : Below W.heap.size W X) : PenAt b r l X :=
  h.keep (M := fun _ => False) (Touch.of_below hX) (fun h => h) (fun _ _ h => h)
theorem PenAt.lt {b : Nat} {r : Option Nat} {l : List UInt8} {W : World} (h : PenAt b r l W) : b < W.heap.size ∧ ∀ k, r = some k → k < W.heap.size ∧ k ≠ b := by
  obtain ⟨v, h1, h2, h3⟩ := h
  refine ⟨blk_lt h1, fun k hk => ⟨h3.lt (h2.trans hk), ?_⟩⟩
  rintro rfl
  obtain ⟨c, hc⟩ := row_block h3 (h2.trans hk)
  rw [h1] at hc; cases hc
/-- Behind an append: the box is as it was. -/
theorem PenAt.box {b : Nat} {l : List UInt8} {W w1 w2 : World} {v : Value} (h : W.heap[b]? = some (.cells #[v] 44 (0, 0))) (ho : OwnB W v l) (hA : Below W.heap.size W w1) (hg : w1.grownBy w2 v.ownBlock) : w2.heap[b]? = some (.cells #[v] 44 (0, 0)) := by
  refine (hg.block b (Nat.lt_of_lt_of_le (blk_lt h) hA.size) (fun e => ?_)).trans ((hA.block b (blk_lt h)).trans h)
  obtain ⟨c, hc⟩ := row_block ho e.symm
  rw [h] at hc; cases hc
theorem PenAt.stored {b : Nat} {l l' : List UInt8} {W w1 w2 : World} {v v' : Value} (h : W.heap[b]? = some (.cells #[v] 44 (0, 0))) (ho : OwnB W v l) (hA : Below W.heap.size W w1) (hg : w1.grownBy w2 v.ownBlock) (ho' : OwnB w2 v' l')
    (hat : v'.ownBlock = v.ownBlock ∨ v'.ownBlock = some w1.heap.size) :
    ∃ r', NewB W.heap.size v.ownBlock r' ∧ PenAt b r' l' (w2.setCell ⟨b, 0, none⟩ v') ∧ Touch (PenM b v.ownBlock) W (w2.setCell ⟨b, 0, none⟩ v') := by
  have hbox := PenAt.box h ho hA hg
  have hlt := blk_lt h
  refine ⟨v'.ownBlock, ?_, ⟨v', ?_, rfl, ho'.kept (fun g hgg => Below.heap_setCell _ _ _ _ ?_)⟩, ?_⟩
  · rcases hat with e | e
    · exact .inl e
    · exact .inr ⟨_, e, hA.size⟩
  · exact (block_set _ hbox).trans rfl
  · rintro rfl
    obtain ⟨c, hc⟩ := row_block ho' hgg
    rw [hbox] at hc; cases hc
  · refine Touch.set ?_ b 0 v' (.inl (.inl rfl))
    refine Touch.trans (M' := PenM b v.ownBlock) (Touch.of_below hA) (Touch.of_grown hg (fun j hj => .inr hj.symm)) (fun j _ h => h)
theorem own_snoc {w : World} {v : Value} {l : List UInt8} {c : UInt8} (h : w.ownsRow 0 5 1 v (l.length + 1) (l.map byteV ++ [byteV c])) : OwnB w v (l ++ [c]) := by
  unfold OwnB
  rw [List.length_append, List.map_append]
  exact h

theorem digits_div (n k : Nat) : digits (n / 256 ^ k) = digits n - k := by
  induction k with
  | zero => simp
  | succ k ih =>
    rw [Nat.pow_succ, ← Nat.div_div_eq_div_mul]
    by_cases h : n / 256 ^ k = 0
    · rw [h]; rw [h, digits_zero] at ih; simp [digits_zero]; omega
    · have := digits_pos _ h; omega
theorem beB_step (n k : Nat) (h : k < digits n) : beB (n / 256 ^ k) = beB (n / 256 ^ (k + 1)) ++ [UInt8.ofNat (n / 256 ^ k % 256)] := by
  have h0 : n / 256 ^ k ≠ 0 := by
    intro h0
    have := digits_div n k
    rw [h0, digits_zero] at this
    omega
  rw [beB_pos _ h0, Nat.pow_succ, ← Nat.div_div_eq_div_mul]
theorem beB_top (n : Nat) : beB (n / 256 ^ digits n) = [] := by
  have := digits_div n (digits n)
  rw [Nat.sub_self] at this
  exact List.length_eq_zero_iff.1 this
def numN (n : Nat) : List UInt8 := if n ≤ 247 then [UInt8.ofNat n] else UInt8.ofNat (247 + digits n) :: beB n
theorem numN_length (n : Nat) : (numN n).length = sizeN n := by
  unfold numN sizeN digits
  split <;> simp
  omega

set_option maxRecDepth 100000 in
set_option maxHeartbeats 4000000 in
theorem number_any (u : UInt64) (b : Nat) (r : Option Nat) (l : List UInt8) (w : World) (h : PenAt b r l w) (hn : l.length ≤ 1000000000) :
    Calls Try.prog 94 #[ptr b, .int .u64 (U u)] w fun e w' => (∃ v, e = .returned v) ∧ ∃ r', NewB w.heap.size r r' ∧ PenAt b r' (l ++ numN u.toNat) w' ∧ Touch (PenM b r) w w' := by
  obtain ⟨v, h1, rfl, h3⟩ := h
  obtain ⟨i0, hi0, hz0, hz1, hz2⟩ := info_parts infoC
  have hlt := u.toNat_lt
  have c0 : w.cell? ⟨b, 0, none⟩ = some v := by simp [World.cell?, h1]
  obtain ⟨pv, cv, rfl, hlc, _, _⟩ := h3.shape
  go_enter Try.func94, Try.ntmps94
  by_cases hs : u.toNat ≤ 247
  · have e1 : decide (U u ≤ 247) = true := decide_eq_true (by unfold U; omega)
    have e2 : IntKind.u8.wrap (U u) = ((UInt8.ofNat u.toNat).toNat : Int) := by rw [IntKind.wrap_u8]; unfold U; simp
    have HE := Lib.hid hs
    obtain ⟨c, hc⟩ : ∃ c, c = UInt8.ofNat u.toNat := ⟨_, rfl⟩
    rw [← hc] at e2
    have HCC := Lib.hid hc
    have hA := (Below.refl w.heap.size w).alloc (Nat.le_refl _) (.cells #[.int .u8 (c.toNat : Int)] 5)
    have HO := Lib.hid (h3.kept (w' := w.alloc (.cells #[.int .u8 (c.toNat : Int)] 5)) (fun g hg => hA.block g (h3.lt hg)))
    have HC := Lib.hid (cell_of_lit (World.alloc_heap_new w (.cells #[.int .u8 (c.toNat : Int)] 5)))
    have hm : l.length + 1 ≤ maxLen := by unfold maxLen; omega
    have hm2 : (l.length + 1) * 1 ≤ 140737488355328 := by omega
    have H1 := Lib.hid h1
    have H3 := Lib.hid h3
    clear h1 h3 hc hs
    go_wp2_with (at_builtin; refine wpList_append_own_at _ rfl _ _ 41 rfl 0 5 i0 (.int .u8 0) 1 1 Try.underlying41 hi0 hz0 hz1 hz2 rfl (by decide) _ l.length (l.map byteV) rfl HO.out ⟨w.heap.size, 0, none⟩ 1 1 [.int .u8 (c.toNat : Int)] rfl rfl HC.out (by simp [Value.oneCell']) hm hm2 (Nat.zero_le _) ?_)
    intro v' w2 ho hg hni hat
    obtain ⟨g', cp', e'⟩ := ownsRow_succ ho
    have hbox := PenAt.box H1.out H3.out hA hg
    have f2 := free_of hbox 0
    have c2 : w2.cell? ⟨b, 0, none⟩ = some (.slice pv l.length cv) := by simp [World.cell?, hbox]
    obtain ⟨r', q1, q2, q3⟩ := PenAt.stored H1.out H3.out hA hg (own_snoc (c := c) ho) (by simpa using hat)
    subst e'
    have Q1 := Lib.hid q1
    have Q2 := Lib.hid q2
    have Q3 := Lib.hid q3
    clear q1 q2 q3 hbox ho hat hni hg
    go_wp2_with fail
    refine bodyPost_ret (results_none rfl _ _ _) rfl ?_
    refine ⟨⟨_, rfl⟩, r', Q1.out, ?_, Q3.out⟩
    have e : numN u.toNat = [c] := by unfold numN; rw [if_pos HE.out, HCC.out]
    rw [e]
    exact Q2.out
  · have e1 : decide (U u ≤ 247) = false := decide_eq_false (by unfold U; omega)
    have hd8 : digits u.toNat ≤ 8 := digits_lt 8 u.toNat (by omega)
    have hsz : sizeN u.toNat = 1 + digits u.toNat := by unfold sizeN; rw [if_neg hs]
    obtain ⟨n, hn'⟩ : ∃ n, n = digits u.toNat := ⟨_, rfl⟩
    have hHN := Lib.hid hn'
    have HH := Lib.hid hs
    have H1 := Lib.hid h1
    have H3 := Lib.hid h3
    have hn8 : n ≤ 8 := by omega
    clear hs h1 h3
    go_wp2_with fail
    refine (size_any u w).mono ?_
    rintro e w1 ⟨rfl, rfl⟩
    rw [hsz, ← hn', Nat.add_comm]
    clear hsz hn' hd8
    obtain ⟨c, hc⟩ : ∃ c, c = UInt8.ofNat (247 + n) := ⟨_, rfl⟩
    have e2 : IntKind.u8.wrap (247 + (n : Int)) = (c.toNat : Int) := by rw [hc, IntKind.wrap_u8, UInt8.toNat_ofNat']; omega
    have HCC := Lib.hid hc
    have hA := (Below.refl w.heap.size w).alloc (Nat.le_refl _) (.cells #[.int .u8 (c.toNat : Int)] 5)
    have HO := Lib.hid (H3.out.kept (w' := w.alloc (.cells #[.int .u8 (c.toNat : Int)] 5)) (fun g hg => hA.block g (H3.out.lt hg)))
    have HC := Lib.hid (cell_of_lit (World.alloc_heap_new w (.cells #[.int .u8 (c.toNat : Int)] 5)))
    have hm : l.length + 1 ≤ maxLen := by unfold maxLen; omega
    have hm2 : (l.length + 1) * 1 ≤ 140737488355328 := by omega
    clear hc
    go_wp2_with (at_builtin; refine wpList_append_own_at _ rfl _ _ 41 rfl 0 5 i0 (.int .u8 0) 1 1 Try.underlying41 hi0 hz0 hz1 hz2 rfl (by decide) _ l.length (l.map byteV) rfl HO.out ⟨w.heap.size, 0, none⟩ 1 1 [.int .u8 (c.toNat : Int)] rfl rfl HC.out (by simp [Value.oneCell']) hm hm2 (Nat.zero_le _) ?_)
    intro v' w2 ho hg hni hat
    obtain ⟨g', cp', e'⟩ := ownsRow_succ ho
    have hbox := PenAt.box H1.out H3.out hA hg
    have f2 := free_of hbox 0
    have c2 : w2.cell? ⟨b, 0, none⟩ = some (.slice pv l.length cv) := by simp [World.cell?, hbox]
    obtain ⟨r', q1, q2, q3⟩ := PenAt.stored H1.out H3.out hA hg (own_snoc (c := c) ho) (by simpa using hat)
    subst e'
    have Q1 := Lib.hid q1
    have Q2 := Lib.hid q2
    have Q3 := Lib.hid q3
    clear q1 q2 q3 hbox ho hat hni hg
    go_wp2_with fail
    generalize w2.setCell ⟨b, 0, none⟩ (.slice (some ⟨g', 0, none⟩) (l.length + 1) cp') = w3 at *
    clear f2 c2
    go_loopw [5] (fun i wr => ∃ (m : Nat) (r2 : Option Nat), m ≤ n ∧ i = .int .i64 ((m : Int) - 1) ∧ Hid (NewB w.heap.size (Value.slice pv l.length cv).ownBlock r2) ∧ Hid (PenAt b r2 (l ++ [c] ++ beB (u.toNat / 256 ^ m)) wr) ∧ Hid (Touch (PenM b (Value.slice pv l.length cv).ownBlock) w wr)) (fun i _ => (intOf i + 1).toNat)
    case atStart => exact ⟨n, r', Nat.le_refl _, rfl, Q1, Lib.hid (by rw [hHN.out, beB_top, List.append_nil]; exact Q2.out), Q3⟩
    case round =>
      obtain ⟨m, r2, hm, rfl, K1, K2, K3⟩ := hrel
      cases m with
      | zero =>
        go_wp2_with fail
        go_end0
        refine ⟨⟨_, rfl⟩, r2, K1.out, ?_, K3.out⟩
        have e : numN u.toNat = c :: beB u.toNat := by unfold numN; rw [if_neg HH.out, HCC.out, hHN.out]
        rw [e]
        have := K2.out
        rw [Nat.pow_zero, Nat.div_one, List.append_assoc] at this
        exact this
      | succ m =>
        have e4 : ((m + 1 : Nat) : Int) - 1 = (m : Int) := by omega
        rw [e4]
        have e5 : decide (0 ≤ (m : Int)) = true := decide_eq_true (by omega)
        have hL : (l ++ [c] ++ beB (u.toNat / 256 ^ (m + 1))).length ≤ 1000000100 := by
          have h1 := digits_div u.toNat (m + 1)
          rw [← hHN.out] at h1
          unfold digits at h1
          simp only [List.length_append, List.length_cons, List.length_nil]
          omega
        obtain ⟨x, hx⟩ : ∃ x, x = UInt8.ofNat (u.toNat / 256 ^ m % 256) := ⟨_, rfl⟩
        have hbe : l ++ [c] ++ beB (u.toNat / 256 ^ m) = (l ++ [c] ++ beB (u.toNat / 256 ^ (m + 1))) ++ [x] := by
          rw [beB_step u.toNat m (by rw [← hHN.out]; omega), hx]; simp
        have hxv : IntKind.u8.wrap (U u / 2 ^ (8 * m)) = (x.toNat : Int) := by
          rw [q_shr u (8 * m) (by omega), IntKind.wrap_u8, hx, UInt8.toNat_ofNat']
          unfold U
          rw [UInt64.toNat_shiftRight]
          have : (8 * m).toUInt64.toNat % 64 = 8 * m := by
            show (UInt64.ofNat _).toNat % 64 = _
            rw [UInt64.toNat_ofNat']; omega
          rw [this, Nat.shiftRight_eq_div_pow, show (2 : Nat) ^ (8 * m) = 256 ^ m by rw [Nat.pow_mul]]
          omega
        have HBE := Lib.hid hbe
        clear hx hbe
        obtain ⟨v2, h1, h2, h3⟩ := K2.out
        subst h2
        generalize l ++ [c] ++ beB (u.toNat / 256 ^ (m + 1)) = l2 at *
        obtain ⟨p2, k2, rfl, hlc2, _, _⟩ := h3.shape
        have hbw := blk_lt h1
        obtain ⟨vB, hvB⟩ : ∃ vB, vB = (Value.slice p2 l2.length k2).ownBlock := ⟨_, rfl⟩
        have hvl : ∀ k, vB = some k → k < wr.heap.size := fun k hk => h3.lt (hvB.symm.trans hk)
        have H1' := Lib.hid h1
        have H3' := Lib.hid h3
        have HV := Lib.hid hvB
        have HVL := Lib.hid hvl
        clear h1 h3 hvB hvl c0 K2
        go_wp2_with fail
        refine wp_region_steps [[], [], [1], [2], [3], [], [], [6], [5, 7], [8], [9], [4, 10], [0], [12], [13, 11, 4]]
          (fun X => Touch (fun k => k = b ∨ some k = vB) wr X)
          (fun j X => (j = 4 ∨ j = 14 → X.heap[b]? = some (.cells #[.slice p2 l2.length k2] 44 (0, 0))) ∧ (j = 11 → OwnB X (.slice p2 l2.length k2) l2))
          (fun j X Y => X.grownBy Y (if j = 11 then vB else if j = 14 then some b else none))
          (by kernel_rfl) (by kernel_rfl) (by kernel_rfl) (by decide) (Touch.drew _ _) (fun _ => ⟨fun _ => H1'.out, fun _ => H3'.out⟩) ?hCG ?hBG ?hst
        case hCG =>
          intro j X Y hj hC hB hG
          refine hC.trans (M' := fun k => k = b ∨ some k = vB) (Touch.of_grown hG (fun k hk => ?_)) (fun _ _ h => h)
          by_cases h11 : j = 11
          · rw [if_pos h11] at hk; exact .inr hk.symm
          · rw [if_neg h11] at hk
            by_cases h14 : j = 14
            · rw [if_pos h14] at hk; cases hk; exact .inl rfl
            · rw [if_neg h14] at hk; cases hk
        case hBG =>
          intro i' j X Y hi' hj hji hpre hC hBj hG hBi
          refine ⟨fun h => ?_, fun h => OwnB.kept (hBi.2 h) (fun g hg => hG.block g (OwnB.lt (hBi.2 h) hg) ?_)⟩
          · refine (hG.block b (blk_lt (hBi.1 h)) ?_).trans (hBi.1 h)
            intro e
            by_cases h11 : j = 11
            · rw [if_pos h11] at e
              obtain ⟨c', hc'⟩ := row_block (hBj.2 h11) ((HV.out.symm.trans e.symm))
              rw [hBi.1 h] at hc'; cases hc'
            · rw [if_neg h11] at e
              by_cases h14 : j = 14
              · subst h14
                rcases h with rfl | rfl
                · exact hpre (by decide)
                · exact hji rfl
              · rw [if_neg h14] at e; cases e
          · subst h
            rw [if_neg hji]
            by_cases h14 : j = 14
            · subst h14; exact absurd (by decide) hpre
            · rw [if_neg h14]; exact fun e => by cases e
        case hst =>
          repeat
            (apply steps_fx
             · intro vs X hC hB hA
               try simp only [List.getD_cons_zero, List.getD_cons_succ, List.forall_mem_cons, List.not_mem_nil, false_implies, implies_true, and_true] at hA
               simp only [List.getD_cons_zero, List.getD_cons_succ, putL, dstOf, List.foldl_nil, List.foldl_cons, List.getElem?_toArray, List.getElem?_cons_zero, List.getElem?_cons_succ, Option.bind_some, Act.put, List.setIfInBounds_toArray, List.set_cons_zero, List.set_cons_succ]
               try simp only [hA]
               go_wp2_with fail
               exact ⟨_, rfl, World.grownBy.refl _ _, rfl⟩
             simp only [List.cons_append, List.nil_append])
          apply steps_fx
          · intro vs X hC hB hA
            try simp only [List.getD_cons_zero, List.getD_cons_succ, List.forall_mem_cons, List.not_mem_nil, false_implies, implies_true, and_true] at hA
            simp only [List.getD_cons_zero, List.getD_cons_succ, putL, dstOf, List.foldl_nil, List.foldl_cons, List.getElem?_toArray, List.getElem?_cons_zero, List.getElem?_cons_succ, Option.bind_some, Act.put, List.setIfInBounds_toArray, List.set_cons_zero, List.set_cons_succ]
            try simp only [hA]
            have hc := hB.1 (.inl rfl)
            have hcc : X.cell? ⟨b, 0, none⟩ = some (.slice p2 l2.length k2) := by simp [World.cell?, hc]
            go_wp2_with fail
            exact ⟨_, rfl, World.grownBy.refl _ _, rfl⟩
          simp only [List.cons_append, List.nil_append]
          repeat
            (apply steps_fx
             · intro vs X hC hB hA
               try simp only [List.getD_cons_zero, List.getD_cons_succ, List.forall_mem_cons, List.not_mem_nil, false_implies, implies_true, and_true] at hA
               simp only [List.getD_cons_zero, List.getD_cons_succ, putL, dstOf, List.foldl_nil, List.foldl_cons, List.getElem?_toArray, List.getElem?_cons_zero, List.getElem?_cons_succ, Option.bind_some, Act.put, List.setIfInBounds_toArray, List.set_cons_zero, List.set_cons_succ]
               try simp only [hA]
               go_wp2_with fail
               exact ⟨_, rfl, World.grownBy.refl _ _, rfl⟩
             simp only [List.cons_append, List.nil_append])
          refine steps_pr (fun v X => LitAt wr.heap.size (.int .u8 (x.toNat : Int)) 5 v X) ?_ ?_ ?_
          · rintro j v X Y hj hji hpre hC hBj hG ⟨g, h1, h2, h4⟩
            refine ⟨g, h1, h2, (hG.block g (blk_lt h4) (fun e => ?_)).trans h4⟩
            by_cases h11 : j = 11
            · rw [if_pos h11] at e; have := HVL.out g e.symm; omega
            · rw [if_neg h11] at e
              by_cases h14 : j = 14
              · rw [if_pos h14] at e; cases e; omega
              · rw [if_neg h14] at e; cases e
          · intro vs X hC hB hA
            try simp only [List.getD_cons_zero, List.getD_cons_succ, List.forall_mem_cons, List.not_mem_nil, false_implies, implies_true, and_true] at hA
            simp only [List.getD_cons_zero, List.getD_cons_succ, putL, dstOf, List.foldl_nil, List.foldl_cons, List.getElem?_toArray, List.getElem?_cons_zero, List.getElem?_cons_succ, Option.bind_some, Act.put, List.setIfInBounds_toArray, List.set_cons_zero, List.set_cons_succ]
            try simp only [hA]
            go_wp2_with fail
            exact ⟨_, rfl, World.grownBy_alloc _ _ _, X.heap.size, rfl, hC.size, World.alloc_heap_new _ _⟩
          simp only [List.cons_append, List.nil_append]
          refine steps_pr (fun v X => OwnB X v (l2 ++ [x]) ∧ NewB wr.heap.size vB v.ownBlock) ?_ ?_ ?_
          · rintro j v X Y hj hji hpre hC hBj hG ⟨h1, h2⟩
            refine ⟨OwnB.kept h1 (fun g hg => hG.block g (OwnB.lt h1 hg) (fun e => ?_)), h2⟩
            rw [if_neg hji] at e
            by_cases h14 : j = 14
            · rw [if_pos h14] at e; cases e
              obtain ⟨c', hc'⟩ := row_block h1 hg
              rw [hBj.1 (.inr h14)] at hc'; cases hc'
            · rw [if_neg h14] at e; cases e
          · intro vs X hC hB hA
            try simp only [List.getD_cons_zero, List.getD_cons_succ, List.forall_mem_cons, List.not_mem_nil, false_implies, implies_true, and_true] at hA
            simp only [List.getD_cons_zero, List.getD_cons_succ, putL, dstOf, List.foldl_nil, List.foldl_cons, List.getElem?_toArray, List.getElem?_cons_zero, List.getElem?_cons_succ, Option.bind_some, Act.put, List.setIfInBounds_toArray, List.set_cons_zero, List.set_cons_succ]
            try simp only [hA]
            obtain ⟨a4, ⟨g6, e6, l6, c6⟩⟩ := hA
            rw [e6]
            have hO := hB.2 rfl
            have hvb : (Value.slice p2 l2.length k2).ownBlock = vB := HV.out.symm
            refine wpList_append_own_at _ rfl _ _ 41 rfl 0 5 i0 (.int .u8 0) 1 1 Try.underlying41 hi0 hz0 hz1 hz2 rfl (by decide) _ l2.length (l2.map byteV) rfl hO ⟨g6, 0, none⟩ 1 1 [.int .u8 (x.toNat : Int)] rfl rfl (cell_of_lit c6) (by simp [Value.oneCell']) (by unfold maxLen; omega) (by omega) (Nat.zero_le _) ?_
            intro v' w' ho hg' _ hat
            have hg2 : X.grownBy w' vB := by rw [← hvb]; exact hg'
            have hat2 : v'.ownBlock = vB ∨ v'.ownBlock = some X.heap.size := by rw [← hvb]; exact hat
            refine ⟨v', rfl, hg2, own_snoc ho, ?_⟩
            rcases hat2 with e | e
            · exact .inl e
            · exact .inr ⟨_, e, hC.size⟩
          simp only [List.cons_append, List.nil_append]
          repeat
            (apply steps_fx
             · intro vs X hC hB hA
               try simp only [List.getD_cons_zero, List.getD_cons_succ, List.forall_mem_cons, List.not_mem_nil, false_implies, implies_true, and_true] at hA
               simp only [List.getD_cons_zero, List.getD_cons_succ, putL, dstOf, List.foldl_nil, List.foldl_cons, List.getElem?_toArray, List.getElem?_cons_zero, List.getElem?_cons_succ, Option.bind_some, Act.put, List.setIfInBounds_toArray, List.set_cons_zero, List.set_cons_succ]
               try simp only [hA]
               go_wp2_with fail
               exact ⟨_, rfl, World.grownBy.refl _ _, rfl⟩
             simp only [List.cons_append, List.nil_append])
          refine steps_pr (fun v X => ∃ v', X.heap[b]? = some (.cells #[v'] 44 (0, 0)) ∧ OwnB X v' (l2 ++ [x]) ∧ NewB wr.heap.size vB v'.ownBlock) ?_ ?_ ?_
          · rintro j v X Y hj hji hpre hC hBj hG ⟨v', h1, h2, h3⟩
            have hno : (if j = 11 then vB else if j = 14 then some b else none) = none := by
              rw [if_neg hji]
              by_cases h11 : j = 11
              · subst h11; exact absurd (by decide) hpre
              · rw [if_neg h11]
            rw [hno] at hG
            exact ⟨v', (hG.block b (blk_lt h1) (fun e => by cases e)).trans h1, OwnB.kept h2 (fun g hg => hG.block g (OwnB.lt h2 hg) (fun e => by cases e)), h3⟩
          · intro vs X hC hB hA
            try simp only [List.getD_cons_zero, List.getD_cons_succ, List.forall_mem_cons, List.not_mem_nil, false_implies, implies_true, and_true] at hA
            simp only [List.getD_cons_zero, List.getD_cons_succ, putL, dstOf, List.foldl_nil, List.foldl_cons, List.getElem?_toArray, List.getElem?_cons_zero, List.getElem?_cons_succ, Option.bind_some, Act.put, List.setIfInBounds_toArray, List.set_cons_zero, List.set_cons_succ]
            try simp only [hA]
            obtain ⟨a13, ⟨o11, n11⟩, a4⟩ := hA
            obtain ⟨g', cp', e'⟩ := ownsRow_succ (show X.ownsRow 0 5 1 (vs 11) (l2.length + 1) ((l2 ++ [x]).map byteV) by have := o11; unfold OwnB at this; simpa using this)
            rw [e'] at o11 n11 ⊢
            have hbx := hB.1 (.inr rfl)
            have f2 := free_of hbx 0
            have cc2 : X.cell? ⟨b, 0, none⟩ = some (.slice p2 l2.length k2) := by simp [World.cell?, hbx]
            have O11 := Lib.hid o11
            have N11 := Lib.hid n11
            clear o11 n11
            go_wp2_with fail
            refine ⟨undef, rfl, grownBy_setCell' X b _, _, (block_set _ hbx).trans rfl, O11.out.kept (fun g hg => Below.heap_setCell _ _ _ _ ?_), N11.out⟩
            rintro rfl
            obtain ⟨c', hc'⟩ := row_block O11.out hg
            rw [hbx] at hc'; cases hc'
          simp only [List.cons_append, List.nil_append]
          refine steps_nil ?_
          intro vs X hC hA
          rw [(fun (l : List Oper) (h : l.length = 15) => (by rw [h]; rfl : List.range l.length = [0, 1, 2, 3, 4, 5, 6, 7, 8, 9, 10, 11, 12, 13, 14])) _ rfl]
          simp only [List.getD_cons_zero, List.getD_cons_succ, putL, dstOf, List.foldl_nil, List.foldl_cons, List.getElem?_toArray, List.getElem?_cons_zero, List.getElem?_cons_succ, Option.bind_some, Act.put, List.setIfInBounds_toArray, List.set_cons_zero, List.set_cons_succ]
          obtain ⟨v', h1, h2, h3⟩ : ∃ v', X.heap[b]? = some (.cells #[v'] 44 (0, 0)) ∧ OwnB X v' (l2 ++ [x]) ∧ NewB wr.heap.size vB v'.ownBlock := hA 14 (by decide)
          clear hA
          have hwr := K3.out.size
          rw [← HV.out] at K1
          have q1 := Lib.hid (NewB.trans K1.out h3 hwr)
          have q2 := Lib.hid (show PenAt b v'.ownBlock (l ++ [c] ++ beB (u.toNat / 256 ^ m)) X by rw [HBE.out]; exact ⟨v', h1, rfl, h2⟩)
          have q3 := Lib.hid (Touch.trans K3.out hC (PenM.step K1.out))
          clear h1 h2 h3 hC
          go_wp2_with fail
          refine ⟨⟨m, v'.ownBlock, by omega, ?_, q1, q2, q3⟩, ?_⟩
          · go_num
          · simp [intOf]
end Go.Proofs.Ytkdbbdlkfpjdfaa

/- Contracts of package pen: what a pen writes, more.
   Conditions: those that each theorem names. -/
namespace Go.Proofs.Ytkdbbdlkfpjdfaa
set_option maxRecDepth 100000
set_option linter.unusedVariables false
set_option linter.unusedSimpArgs false
set_option linter.unusedVariables false
set_option linter.unusedSimpArgs false
open Go.RowKit Go.Rg
attribute [local go_sem] Rg.q_add Rg.q_add' Rg.q_xor Rg.q_or Rg.q_and ba_app
theorem own_app {w : World} {v : Value} {l m : List UInt8} (h : w.ownsRow 0 5 1 v (l.length + m.length) (l.map byteV ++ m.map byteV)) : OwnB w v (l ++ m) := by
  unfold OwnB
  rw [List.length_append, List.map_append]
  exact h
set_option maxRecDepth 100000 in
set_option maxHeartbeats 4000000 in
theorem fixed_any (x : Value) (m : List UInt8) (b : Nat) (r : Option Nat) (l : List UInt8) (w : World) (h : PenAt b r l w) (hx : BytesAt w x m) (hn : l.length + m.length ≤ 1000000000) :
    Calls Try.prog 66 #[ptr b, x] w fun e w' => (∃ v, e = .returned v) ∧ ∃ r', NewB w.heap.size r r' ∧ PenAt b r' (l ++ m) w' ∧ Touch (PenM b r) w w' := by
  obtain ⟨v, h1, rfl, h3⟩ := h
  obtain ⟨i0, hi0, hz0, hz1, hz2⟩ := info_parts infoC
  have c0 : w.cell? ⟨b, 0, none⟩ = some v := by simp [World.cell?, h1]
  obtain ⟨pv, cv, rfl, hlc, _, _⟩ := h3.shape
  obtain ⟨p, cap, rfl, hf⟩ := id hx
  have HO := Lib.hid h3
  have H1 := Lib.hid h1
  have hA := Below.refl w.heap.size w
  go_enter Try.func66, Try.ntmps66
  cases p with
  | none =>
    have h0 : m = [] := by
      cases m with
      | nil => rfl
      | cons c l => obtain ⟨g, o, e, _⟩ := hf 0 (by simp); cases e
    subst h0
    have f2 := free_of h1 0
    obtain ⟨r', q1, q2, q3⟩ := PenAt.stored (w1 := w) (w2 := w) h1 h3 hA (World.grownBy.refl _ _) h3 (.inl rfl)
    have Q1 := Lib.hid q1
    have Q2 := Lib.hid q2
    have Q3 := Lib.hid q3
    clear hf hx q1 q2 q3 h1 h3
    go_wp2_with (at_builtin; refine wpList_append_own_none _ rfl _ _ 41 rfl 0 5 i0 1 Try.underlying41 hi0 hz1 _ l.length cap (l.map byteV) rfl HO.out rfl ?_)
    go_end0
    rw [List.append_nil]
    exact ⟨⟨_, rfl⟩, r', Q1.out, Q2.out, Q3.out⟩
  | some ad =>
    have HC := Lib.hid hx.cells
    have hm : l.length + m.length ≤ maxLen := by unfold maxLen; omega
    have hm2 : (l.length + m.length) * 1 ≤ 140737488355328 := by omega
    clear hf hx h1 h3
    go_wp2_with (at_builtin; refine wpList_append_own_at _ rfl _ _ 41 rfl 0 5 i0 (.int .u8 0) 1 1 Try.underlying41 hi0 hz0 hz1 hz2 rfl (by decide) _ l.length (l.map byteV) rfl HO.out ad m.length cap (m.map byteV) rfl (by simp) HC.out (bytes_oneCell m) hm hm2 (Nat.zero_le _) ?_)
    intro v' w2 ho hg hni hat
    have hbox := PenAt.box H1.out HO.out hA hg
    have f2 := free_of hbox 0
    have c2 : w2.cell? ⟨b, 0, none⟩ = some (.slice pv l.length cv) := by simp [World.cell?, hbox]
    obtain ⟨r', q1, q2, q3⟩ := PenAt.stored H1.out HO.out hA hg (own_app ho) (by simpa using hat)
    obtain ⟨p', cp', e', _⟩ := (own_app ho).shape
    rw [List.length_append] at e'
    subst e'
    have Q1 := Lib.hid q1
    have Q2 := Lib.hid q2
    have Q3 := Lib.hid q3
    clear q1 q2 q3 hbox ho hat hni hg
    go_wp2_with fail
    go_end0
    exact ⟨⟨_, rfl⟩, r', Q1.out, Q2.out, Q3.out⟩
set_option maxRecDepth 100000 in
theorem signed_any (n : Int) (b : Nat) (r : Option Nat) (l : List UInt8) (w : World) (h : PenAt b r l w) (hn : l.length ≤ 1000000000) (hi : -9223372036854775808 ≤ n ∧ n ≤ 9223372036854775807) :
    Calls Try.prog 65 #[ptr b, .int .i64 n] w fun e w' => (∃ v, e = .returned v) ∧ ∃ r', NewB w.heap.size r r' ∧ PenAt b r' (l ++ numN (zigN n).toNat) w' ∧ Touch (PenM b r) w w' := by
  go_enter Try.func65, Try.ntmps65
  go_wp2_with fail
  refine (zig_any n w hi).mono ?_
  rintro e w1 ⟨rfl, rfl⟩
  go_wp2_with fail
  refine (number_any _ b r l w h hn).mono ?_
  rintro e w1 ⟨⟨v1, rfl⟩, r1, n1, p1, t1⟩
  have P1 := Lib.hid p1
  have T1 := Lib.hid t1
  clear p1 t1
  go_wp2_with fail
  go_end0
  exact ⟨⟨_, rfl⟩, r1, n1, P1.out, T1.out⟩
set_option maxRecDepth 100000 in
theorem bytes_any (b : Nat) (r : Option Nat) (l : List UInt8) (w : World) (h : PenAt b r l w) (hn : l.length ≤ 1000000000) :
    Calls Try.prog 30 #[ptr b] w fun e w' => ∃ v', e = .returned v' ∧ OwnB w' v' l ∧ (∀ k, v'.ownBlock = some k → w.heap.size ≤ k) ∧ Below w.heap.size w w' := by
  obtain ⟨v, h1, rfl, h3⟩ := h
  have c0 : w.cell? ⟨b, 0, none⟩ = some v := by simp [World.cell?, h1]
  obtain ⟨pv, cv, rfl, hlc, _, _⟩ := h3.shape
  have H3 := Lib.hid h3
  clear h3
  go_enter Try.func30, Try.ntmps30
  go_wp2_with fail
  refine (bytes_clone _ l w H3.out.at (by omega)).mono ?_
  rintro e w1 ⟨v1, rfl, q1, q2, q3⟩
  have Q1 := Lib.hid q1
  have Q2 := Lib.hid q2
  clear q1 q2
  go_wp2_with fail
  go_ret
  exact ⟨v1, rfl, Q1.out, Q2.out, q3⟩
theorem number_nil (v : Value) (w : World) : Calls Try.prog 94 #[.pointer none, v] w fun e w' => (∃ v, e = .returned v) ∧ w = w' := by
  go_enter Try.func94, Try.ntmps94
  go_wp2_with fail
  refine bodyPost_ret (results_none rfl _ _ _) rfl ?_
  exact ⟨⟨_, rfl⟩, rfl⟩
theorem fixed_nil (v : Value) (w : World) : Calls Try.prog 66 #[.pointer none, v] w fun e w' => (∃ v, e = .returned v) ∧ w = w' := by
  go_enter Try.func66, Try.ntmps66
  go_wp2_with fail
  go_end0
  exact ⟨⟨_, rfl⟩, rfl⟩
theorem signed_nil (n : Int) (w : World) (hi : -9223372036854775808 ≤ n ∧ n ≤ 9223372036854775807) : Calls Try.prog 65 #[.pointer none, .int .i64 n] w fun e w' => (∃ v, e = .returned v) ∧ w = w' := by
  go_enter Try.func65, Try.ntmps65
  go_wp2_with fail
  refine (zig_any n w hi).mono ?_
  rintro e w1 ⟨rfl, rfl⟩
  go_wp2_with fail
  refine (number_nil _ w).mono ?_
  rintro e w1 ⟨⟨v1, rfl⟩, rfl⟩
  go_wp2_with fail
  go_end0
  exact ⟨⟨_, rfl⟩, rfl⟩
theorem bytes_nil (w : World) : Calls Try.prog 30 #[.pointer none] w fun e w' => e = .returned (.slice none 0 0) ∧ w = w' := by
  go_enter Try.func30, Try.ntmps30
  go_wp2_with fail
  go_ret
  exact ⟨rfl, rfl⟩
end Go.Proofs.Ytkdbbdlkfpjdfaa

/- Contracts of package pen: what an eye reads.
   Conditions: those that each theorem names. -/
namespace Go.Proofs.Ytkdbbdlkfpjdfaa
set_option maxRecDepth 100000
set_option linter.unusedVariables false
set_option linter.unusedSimpArgs false
set_option linter.unusedVariables false
set_option linter.unusedSimpArgs false
open Go.RowKit Go.Rg
variable {lo : Nat}
attribute [local go_sem] Rg.q_add Rg.q_add' Rg.q_xor Rg.q_or Rg.q_and ba_app
/-- An eye: what is left, and its error. -/
structure Ey where
  s : List UInt8
  e : Int
def EyeAt (lo b : Nat) (x : Ey) (W : World) : Prop :=
  ∃ (p : Option Addr) (cap : Nat), x.s.length ≤ cap ∧ W.heap[b]? = some (.cells #[.slice p x.s.length cap, .int .i64 x.e] 109 (0, 0)) ∧ BytesAt W (.slice p x.s.length cap) x.s ∧ ∀ a, p = some a → a.block ≠ b ∧ a.block < W.heap.size ∧ a.block < lo
theorem EyeAt.cells {b : Nat} {x : Ey} {W : World} (h : EyeAt lo b x W) : ∃ p cap, W.cell? ⟨b, 0, none⟩ = some (.slice p x.s.length cap) ∧ W.cell? ⟨b, 1, none⟩ = some (.int .i64 x.e) ∧ W.frozen? ⟨b, 0, none⟩ = false ∧ W.frozen? ⟨b, 1, none⟩ = false ∧ x.s.length ≤ cap ∧ BytesAt W (.slice p x.s.length cap) x.s ∧
    W.heap[b]? = some (.cells #[.slice p x.s.length cap, .int .i64 x.e] 109 (0, 0)) ∧ ∀ a, p = some a → a.block ≠ b ∧ a.block < W.heap.size ∧ a.block < lo := by
  obtain ⟨p, cap, hc, h1, h2, h3⟩ := h
  exact ⟨p, cap, by simp [World.cell?, h1], by simp [World.cell?, h1], free_of h1 0, free_of h1 1, hc, h2, h1, h3⟩
theorem EyeAt.below {b : Nat} {x : Ey} {W X : World} (h : EyeAt lo b x W) (hX : Below W.heap.size W X) : EyeAt lo b x X := by
  obtain ⟨p, cap, hc, h1, h2, h3⟩ := h
  exact ⟨p, cap, hc, (hX.block b (blk_lt h1)).trans h1, h2.below hX, fun a ha => ⟨(h3 a ha).1, Nat.lt_of_lt_of_le (h3 a ha).2.1 hX.size, (h3 a ha).2.2⟩⟩
theorem EyeAt.weak {lo lo' b : Nat} {x : Ey} {W : World} (h : EyeAt lo b x W) (hl : lo ≤ lo') : EyeAt lo' b x W := by
  obtain ⟨p, cap, hc, h1, h2, h3⟩ := h
  exact ⟨p, cap, hc, h1, h2, fun a ha => ⟨(h3 a ha).1, (h3 a ha).2.1, Nat.lt_of_lt_of_le (h3 a ha).2.2 hl⟩⟩
/-- .. where the eye's block and all below 'lo' are as they were. -/
theorem EyeAt.kept {b : Nat} {x : Ey} {W X : World} (h : EyeAt lo b x W) (hb : X.heap[b]? = W.heap[b]?) (hz : W.heap.size ≤ X.heap.size) (hl : ∀ k, k < lo → k < W.heap.size → X.heap[k]? = W.heap[k]?) : EyeAt lo b x X := by
  obtain ⟨p, cap, hc, h1, h2, h3⟩ := h
  exact ⟨p, cap, hc, hb.trans h1, h2.kept (fun k hk hlt => by cases p with | none => cases hk | some a => cases hk; exact hl _ (h3 a rfl).2.2 hlt) hz, fun a ha => ⟨(h3 a ha).1, Nat.lt_of_lt_of_le (h3 a ha).2.1 hz, (h3 a ha).2.2⟩⟩
theorem EyeAt.lt {b : Nat} {x : Ey} {W : World} (h : EyeAt lo b x W) : b < W.heap.size := by
  obtain ⟨p, cap, hc, h1, _⟩ := h
  exact blk_lt h1
theorem bytes_other {b i : Nat} {W : World} {p : Option Addr} {n cap : Nat} {l : List UInt8} {v : Value} (h : BytesAt W (.slice p n cap) l) (hp : ∀ a, p = some a → a.block ≠ b) : BytesAt (W.setCell ⟨b, i, none⟩ v) (.slice p n cap) l := by
  refine h.kept (fun k hk _ => Below.heap_setCell _ _ _ _ ?_) (by show _ ≤ (W.heap.modify _ _).size; rw [Array.size_modify]; exact Nat.le_refl _)
  rintro rfl
  cases p with
  | none => cases hk
  | some a => cases hk; exact hp a rfl rfl
theorem size_set (W : World) (p : Addr) (v : Value) : (W.setCell p v).heap.size = W.heap.size := by show (W.heap.modify _ _).size = _; rw [Array.size_modify]
def Ey.fail (x : Ey) (f : Int) : Ey := if x.e = 0 ∧ f ≠ 0 then ⟨[], f⟩ else x

set_option maxRecDepth 100000 in
theorem read_any (v : Value) (l : List UInt8) (w : World) (h : BytesAt w v l) (hn : l.length ≤ 1000000000) :
    Calls Try.prog 27 #[v] w fun e w' => ∃ b, e = .returned (ptr b) ∧ w.heap.size ≤ b ∧ EyeAt w'.heap.size b ⟨l, 0⟩ w' ∧ Below w.heap.size w w' := by
  go_enter Try.func27, Try.ntmps27
  go_wp2_with fail
  refine (bytes_clone _ l w h (by omega)).mono ?_
  rintro e w1 ⟨v1, rfl, q1, q2, q3⟩
  obtain ⟨p1, c1, rfl, hlc, _⟩ := q1.shape
  have Q1 := Lib.hid q1
  have Q2 := Lib.hid q2
  clear q1 q2
  go_wp2_with fail
  go_ret
  have hA := (Below.refl w1.heap.size w1).alloc (Nat.le_refl _) (.cells #[.slice p1 l.length c1, .int .i64 0] 109)
  refine ⟨_, rfl, q3.size, ⟨p1, c1, hlc, World.alloc_heap_new _ _, Q1.out.at.below hA, ?_⟩, q3.trans (hA.mono q3.size)⟩
  intro a ha
  subst ha
  have := Q1.out.lt (k := a.block) rfl
  exact ⟨by omega, Nat.lt_of_lt_of_le this hA.size, Nat.lt_of_lt_of_le this hA.size⟩
set_option maxRecDepth 100000 in
theorem fail_any (b : Nat) (x : Ey) (f : Int) (w : World) (h : EyeAt lo b x w) :
    Calls Try.prog 73 #[ptr b, .int .i64 f] w fun e w' => (∃ v, e = .returned v) ∧ EyeAt lo b (x.fail f) w' ∧ Touch (fun k => k = b) w w' := by
  obtain ⟨p, cap, k0, k1, f0, f1, hc, hb, hh, hp⟩ := h.cells
  have H := Lib.hid h
  have HH := Lib.hid hh
  clear h hb hh
  go_enter Try.func73, Try.ntmps73
  by_cases h1 : x.e = 0
  · have e1 : (x.e == 0) = true := by simp [h1]
    by_cases h2 : f = 0
    · have e2 : (f != 0) = false := by simp [h2]
      have e3 : x.fail f = x := by unfold Ey.fail; rw [if_neg (by simp [h2])]
      clear h1 h2
      go_wp2_with fail
      go_end0
      exact ⟨⟨_, rfl⟩, by rw [e3]; exact H.out, Touch.refl _ _⟩
    · have e2 : (f != 0) = true := by simp [h2]
      have e3 : x.fail f = ⟨[], f⟩ := by unfold Ey.fail; rw [if_pos ⟨h1, h2⟩]
      have E3 := Lib.hid e3
      clear h1 h2 e3
      go_wp2_with fail
      go_end0
      rw [E3.out]
      refine ⟨⟨_, rfl⟩, ⟨none, 0, Nat.le_refl _, (block_set _ (block_set _ HH.out)).trans rfl, BytesAt.none _ _ _ _ _ rfl rfl, fun a ha => by cases ha⟩, ?_⟩
      exact ((Touch.refl (fun k => k = b) w).set b 1 _ (.inl rfl)).set b 0 _ (.inl rfl)
  · have e1 : (x.e == 0) = false := by simp [h1]
    have e3 : x.fail f = x := by unfold Ey.fail; rw [if_neg (by simp [h1])]
    clear h1
    go_wp2_with fail
    go_end0
    exact ⟨⟨_, rfl⟩, by rw [e3]; exact H.out, Touch.refl _ _⟩
theorem err_any (b : Nat) (x : Ey) (w : World) (h : EyeAt lo b x w) : Calls Try.prog 31 #[ptr b] w fun e w' => e = .returned (.int .i64 x.e) ∧ w = w' := by
  obtain ⟨p, cap, k0, k1, _⟩ := h.cells
  clear h
  go_enter Try.func31, Try.ntmps31
  go_wp2_with fail
  go_ret
  exact ⟨rfl, rfl⟩
theorem left_any (b : Nat) (x : Ey) (w : World) (h : EyeAt lo b x w) : Calls Try.prog 32 #[ptr b] w fun e w' => e = .returned (.int .i64 (x.s.length : Int)) ∧ w = w' := by
  obtain ⟨p, cap, k0, k1, _⟩ := h.cells
  clear h
  go_enter Try.func32, Try.ntmps32
  go_wp2_with fail
  go_ret
  exact ⟨rfl, rfl⟩
def Ey.fin (x : Ey) : Ey := if x.s = [] then x else x.fail 13
set_option maxRecDepth 100000 in
theorem eye_take (b n : Nat) (x : Ey) (w : World) (h : EyeAt lo b x w) (hn : n ≤ x.s.length) : Calls Try.prog 98 #[ptr b, .int .i64 (n : Int)] w fun e w' => (∃ v, e = .returned v ∧ BytesAt w' v (x.s.take n)) ∧ EyeAt lo b ⟨x.s.drop n, x.e⟩ w' ∧ Touch (fun k => k = b) w w' := by
  obtain ⟨p, cap, k0, k1, f0, f1, hc, hb, hh, hp⟩ := h.cells
  have HH := Lib.hid hh
  have HB := Lib.hid hb
  have e1 : decide (n ≤ cap) = true := decide_eq_true (by omega)
  have hcn : n ≤ cap := by omega
  clear h hb hh
  go_enter Try.func98, Try.ntmps98
  go_wp2_with fail
  · go_ret
    have hz : (w.setCell ⟨b, 0, none⟩ (.slice p (x.s.length - n) 0)).heap.size = w.heap.size := size_set _ _ _
    refine ⟨⟨_, rfl, (bytes_other HB.out (fun a ha => (hp a ha).1)).pre n n hn⟩, ⟨p, 0, by simp; omega, (block_set _ HH.out).trans (by simp), BytesAt.none _ _ _ _ _ (by simp; omega) (by simp; omega), fun a ha => ⟨(hp a ha).1, by rw [hz]; exact (hp a ha).2⟩⟩, ?_⟩
    exact (Touch.refl (fun k => k = b) w).set b 0 _ (.inl rfl)
  · go_ret
    have hz : (w.setCell ⟨b, 0, none⟩ (.slice (Option.map (fun x => x.add n) p) (x.s.length - n) (cap - n))).heap.size = w.heap.size := size_set _ _ _
    refine ⟨⟨_, rfl, (bytes_other HB.out (fun a ha => (hp a ha).1)).pre n n hn⟩, ⟨Option.map (fun x => x.add n) p, cap - n, by simp; omega, (block_set _ HH.out).trans (by simp), ?_, ?_⟩, ?_⟩
    · have := (bytes_other (i := 0) (v := .slice (Option.map (fun x => x.add n) p) (x.s.length - n) (cap - n)) HB.out (fun a ha => (hp a ha).1)).sub n (x.s.length - n) (cap - n) (by omega)
      rw [List.take_of_length_le (by simp)] at this
      simpa using this
    · intro a ha
      cases p with
      | none => cases ha
      | some q =>
        cases ha
        rw [hz]
        have hq := hp q rfl
        have e : (q.add n).block = q.block := by unfold Addr.add; split <;> rfl
        rw [e]; exact hq
    · exact (Touch.refl (fun k => k = b) w).set b 0 _ (.inl rfl)
end Go.Proofs.Ytkdbbdlkfpjdfaa

/- Contracts of package pen: numbers that are read.
   Conditions: those that each theorem names. -/
namespace Go.Proofs.Ytkdbbdlkfpjdfaa
set_option maxRecDepth 100000
set_option linter.unusedVariables false
set_option linter.unusedSimpArgs false
set_option linter.unusedVariables false
set_option linter.unusedSimpArgs false
open Go.RowKit Go.Rg
attribute [local go_sem] Rg.q_add Rg.q_add' Rg.q_xor Rg.q_or Rg.q_and ba_app
def valB (l : List UInt8) : Nat := l.foldl (fun a c => a * 256 + c.toNat) 0
theorem valB_snoc (l : List UInt8) (c : UInt8) : valB (l ++ [c]) = valB l * 256 + c.toNat := by simp [valB]
theorem fold_lt : ∀ (l : List UInt8) (a k : Nat), a < 256 ^ k → l.foldl (fun a c => a * 256 + c.toNat) a < 256 ^ (k + l.length)
  | [], a, k, h => h
  | c :: l, a, k, h => by
    have hc := c.toNat_lt
    have := fold_lt l (a * 256 + c.toNat) (k + 1) (by rw [Nat.pow_succ]; omega)
    rw [List.foldl_cons, List.length_cons, show k + (l.length + 1) = k + 1 + l.length by omega]
    exact this
theorem valB_lt (l : List UInt8) : valB l < 256 ^ l.length := by
  have := fold_lt l 0 0 (by simp)
  rwa [Nat.zero_add] at this
/-- A number at the beginning of bytes, how many it takes, and an error. -/
def parse : List UInt8 → Nat × Nat × Nat
  | [] => (0, 0, 10)
  | c :: t =>
    if c.toNat ≤ 247 then (c.toNat, 1, 0)
    else if t.length + 1 < c.toNat - 246 then (0, 0, 10)
    else if sizeN (valB (t.take (c.toNat - 247))) ≠ c.toNat - 246 then (0, 0, 11)
    else (valB (t.take (c.toNat - 247)), c.toNat - 246, 0)
theorem parse_cons (c : UInt8) (t : List UInt8) : parse (c :: t) = if c.toNat ≤ 247 then (c.toNat, 1, 0) else if t.length + 1 < c.toNat - 246 then (0, 0, 10)
    else if sizeN (valB (t.take (c.toNat - 247))) ≠ c.toNat - 246 then (0, 0, 11) else (valB (t.take (c.toNat - 247)), c.toNat - 246, 0) := rfl
theorem parse_lt (l : List UInt8) : (parse l).1 < 18446744073709551616 ∧ (parse l).2.1 ≤ l.length ∧ ((parse l).2.2 = 0 ∨ (parse l).2.2 = 10 ∨ (parse l).2.2 = 11) := by
  unfold parse
  cases l with
  | nil => simp
  | cons c t =>
    have hc := c.toNat_lt
    dsimp only
    split
    · simp; omega
    · split
      · simp
      · split
        · simp
        · have h1 := valB_lt (t.take (c.toNat - 247))
          have h2 : (256 : Nat) ^ (t.take (c.toNat - 247)).length ≤ 256 ^ 8 := Nat.pow_le_pow_right (by omega) (by rw [List.length_take]; omega)
          have e8 : (256 : Nat) ^ 8 = 18446744073709551616 := by simp
          rw [e8] at h2
          refine ⟨?_, ?_, .inl rfl⟩
          · omega
          simp; omega
theorem shl_step (n : Nat) (c : UInt8) (h : n < 72057594037927936) : bits .or .u64 (IntKind.u64.wrap (U (UInt64.ofNat n) * 256)) (c.toNat : Int) = U (UInt64.ofNat (n * 256 + c.toNat)) := by
  have hc := c.toNat_lt
  have a1 : IntKind.u64.wrap (U (UInt64.ofNat n) * 256) = U (UInt64.ofNat (n * 256)) := by
    rw [U_nat n (by omega), U_nat (n * 256) (by omega), wrap_u64]; omega
  have a2 : (c.toNat : Int) = U (UInt64.ofNat c.toNat) := (U_nat _ (by omega)).symm
  rw [a1, a2, q_or]
  congr 1
  apply UInt64.toNat_inj.1
  rw [UInt64.toNat_or, UInt64.toNat_ofNat', UInt64.toNat_ofNat', UInt64.toNat_ofNat', Nat.mod_eq_of_lt (by omega), Nat.mod_eq_of_lt (by omega), Nat.mod_eq_of_lt (by omega), Nat.or_comm]
  have e : ∀ a b i : Nat, b < 2 ^ i → b ||| 2 ^ i * a = b + 2 ^ i * a := fun a b i h => by rw [Nat.or_comm, ← Nat.two_pow_add_eq_or_of_lt h a, Nat.add_comm]
  have := e n c.toNat 8 (by omega)
  rw [show (2 : Nat) ^ 8 = 256 from rfl] at this
  rw [Nat.mul_comm n 256, this]; omega

set_option maxRecDepth 100000 in
set_option maxHeartbeats 2000000 in
theorem parse_any (v : Value) (l : List UInt8) (w : World) (h : BytesAt w v l) (hcap : ∀ p n c, v = .slice p n c → l.length ≤ c) (hn : l.length ≤ 1000000000) :
    Calls Try.prog 106 #[v] w fun e w' => e = .returned (.tuple #[.int .u64 (U (UInt64.ofNat (parse l).1)), .int .i64 ((parse l).2.1 : Int), .int .i64 ((parse l).2.2 : Int)]) ∧ w = w' := by
  obtain ⟨p, cap, rfl, hf⟩ := id h
  have hc := hcap _ _ _ rfl
  clear hcap
  cases l with
  | nil =>
    have e1 : parse [] = (0, 0, 10) := rfl
    clear hf h
    go_enter Try.func106, Try.ntmps106
    go_wp2_with fail
    go_ret3
    exact ⟨rfl, rfl⟩
  | cons c t =>
    obtain ⟨g, o, rfl, hg, hc0⟩ := hf 0 (by simp)
    have hc0' : w.cell? ⟨g, o, none⟩ = some (.int .u8 (c.toNat : Int)) := by simpa using hc0
    have hct := c.toNat_lt
    have hF := Lib.hid hf
    have hlen : (c :: t).length = t.length + 1 := rfl
    rw [hlen] at hc hn ⊢
    clear hf h hc0 hlen
    go_enter Try.func106, Try.ntmps106
    by_cases h1 : c.toNat ≤ 247
    · have e1 : decide ((c.toNat : Int) ≤ 247) = true := decide_eq_true (by omega)
      have e2 : IntKind.u64.wrap (c.toNat : Int) = (c.toNat : Int) := by rw [wrap_u64]; omega
      have e3 : parse (c :: t) = (c.toNat, 1, 0) := by rw [parse_cons, if_pos h1]
      rw [e3]
      have e4 : U (UInt64.ofNat c.toNat) = (c.toNat : Int) := U_nat _ (by omega)
      go_wp2_with fail
      go_ret3
      exact ⟨rfl, rfl⟩
    have e1 : decide ((c.toNat : Int) ≤ 247) = false := decide_eq_false (by omega)
    obtain ⟨k, hk⟩ : ∃ k, c.toNat = 247 + (k + 1) := ⟨c.toNat - 248, by omega⟩
    have e2 : 1 + (c.toNat : Int) - 247 = (k : Int) + 2 := by omega
    have hk8 : k + 1 ≤ 8 := by omega
    by_cases h2 : t.length + 1 < k + 2
    · have e3 : parse (c :: t) = (0, 0, 10) := by rw [parse_cons, if_neg h1, if_pos (by omega)]
      have e4 : decide (((t.length : Int) + 1) < (k : Int) + 2) = true := decide_eq_true (by omega)
      rw [e3]
      clear hk h1
      go_wp2_with fail
      go_ret3
      exact ⟨rfl, rfl⟩
    · have e4 : decide (((t.length : Int) + 1) < (k : Int) + 2) = false := decide_eq_false (by omega)
      have HP := Lib.hid (show parse (c :: t) = if sizeN (valB (t.take (k + 1))) ≠ k + 2 then (0, 0, 11) else (valB (t.take (k + 1)), k + 2, 0) by
        rw [parse_cons, if_neg h1, if_neg (by omega), show c.toNat - 247 = k + 1 by omega, show c.toNat - 246 = k + 2 by omega])
      clear hk h1
      go_wp2_with fail
      have hv0 : (0 : Int) = U (UInt64.ofNat (valB (t.take 0))) := by rw [U_nat _ (by simp [valB])]; simp [valB]
      clear e2 e1 e4 hct hc0'
      go_loopw [6, 36] (fun u i wr => wr = w ∧ ∃ j : Nat, j ≤ k + 1 ∧ i = .int .i64 j ∧ u = .int .u64 (U (UInt64.ofNat (valB (t.take j))))) (fun _ i _ => k + 1 - (intOf i).toNat)
      case atStart => exact ⟨rfl, 0, by omega, rfl, by rw [← hv0]⟩
      case round =>
        obtain ⟨rfl, j, hj, rfl, rfl⟩ := hrel
        by_cases hjl : j < k + 1
        · have e5 : decide ((j : Int) < (k : Int) + 1) = true := decide_eq_true (by omega)
          obtain ⟨x, hx⟩ : ∃ x, t[j]? = some x := ⟨_, List.getElem?_eq_getElem (by omega)⟩
          have c1 : wr.cell? ⟨g, o + 1 + j, none⟩ = some (.int .u8 (x.toNat : Int)) := by
            obtain ⟨g1, o1, e, _, hc1⟩ := hF.out (j + 1) (by rw [List.length_cons]; omega)
            cases e
            rw [show o + 1 + j = o + (j + 1) by omega, hc1, List.getElem?_cons_succ, hx]; rfl
          have hvl : valB (t.take j) < 72057594037927936 := by
            have h1 := valB_lt (t.take j)
            have h3 : (256 : Nat) ^ (t.take j).length ≤ 256 ^ 7 := Nat.pow_le_pow_right (by omega) (by rw [List.length_take]; omega)
            have e7 : (256 : Nat) ^ 7 = 72057594037927936 := by simp
            omega
          have hst := shl_step (valB (t.take j)) x hvl
          obtain ⟨y, hy⟩ : ∃ y, y = UInt64.ofNat (valB (t.take j) * 256 + x.toNat) := ⟨_, rfl⟩
          rw [← hy] at hst
          have HY := Lib.hid hy
          have htk : t.take (j + 1) = t.take j ++ [x] := by
            rw [List.take_add_one, hx]; rfl
          have hxt := x.toNat_lt
          have e6 : IntKind.u64.wrap (x.toNat : Int) = (x.toNat : Int) := by rw [wrap_u64]; omega
          have HT := Lib.hid htk
          clear htk hx hv0 hy
          go_wp2_with fail
          refine ⟨⟨trivial, j + 1, by omega, by go_num, ?_⟩, by simp [intOf]; omega⟩
          rw [HT.out, valB_snoc, ← HY.out]
        · have e5 : decide ((j : Int) < (k : Int) + 1) = false := decide_eq_false (by omega)
          obtain rfl : j = k + 1 := by omega
          clear hv0
          have hvl : valB (t.take (k + 1)) < 18446744073709551616 := by
            have h1 := valB_lt (t.take (k + 1))
            have h3 : (256 : Nat) ^ (t.take (k + 1)).length ≤ 256 ^ 8 := Nat.pow_le_pow_right (by omega) (by rw [List.length_take]; omega)
            have e7 : (256 : Nat) ^ 8 = 18446744073709551616 := by simp
            omega
          have hu : (UInt64.ofNat (valB (t.take (k + 1)))).toNat = valB (t.take (k + 1)) := by rw [UInt64.toNat_ofNat', Nat.mod_eq_of_lt hvl]
          go_wp2_with fail
          refine (size_any (UInt64.ofNat (valB (t.take (k + 1)))) wr).mono ?_
          rintro e w2 ⟨rfl, rfl⟩
          rw [hu]
          have hP := HP.out
          clear hu hvl
          generalize hsz : sizeN (valB (t.take (k + 1))) = sz at *
          by_cases h3 : sz = k + 2
          · rw [if_neg (by omega)] at hP
            have e6 : (((sz : Nat) : Int) != (k : Int) + 2) = false := by rw [h3]; simp
            have HP2 := Lib.hid hP
            clear hsz h3 hP
            go_wp2_with fail
            go_ret3
            rw [HP2.out]
            exact ⟨rfl, rfl⟩
          · rw [if_pos h3] at hP
            have e6 : (((sz : Nat) : Int) != (k : Int) + 2) = true := by simp; omega
            have HP2 := Lib.hid hP
            clear hsz hP
            go_wp2_with fail
            go_ret3
            rw [HP2.out]
            exact ⟨rfl, rfl⟩
end Go.Proofs.Ytkdbbdlkfpjdfaa

/- Contracts of package pen: what an eye reads, more.
   Conditions: those that each theorem names. -/
namespace Go.Proofs.Ytkdbbdlkfpjdfaa
set_option maxRecDepth 100000
set_option linter.unusedVariables false
set_option linter.unusedSimpArgs false
set_option linter.unusedVariables false
set_option linter.unusedSimpArgs false
open Go.RowKit Go.Rg
variable {lo : Nat}
attribute [local go_sem] Rg.q_add Rg.q_add' Rg.q_xor Rg.q_or Rg.q_and ba_app
def Ey.number (x : Ey) (most : UInt64) : Nat × Ey :=
  if x.e ≠ 0 then (0, x)
  else if (parse x.s).2.2 ≠ 0 then (0, x.fail ((parse x.s).2.2 : Int))
  else if most.toNat < (parse x.s).1 then (0, x.fail 12)
  else ((parse x.s).1, ⟨x.s.drop (parse x.s).2.1, 0⟩)
theorem Ey.number_lt (x : Ey) (most : UInt64) : (x.number most).1 < 18446744073709551616 := by
  unfold Ey.number
  split
  · exact (by omega : 0 < 18446744073709551616)
  · split
    · exact (by omega : 0 < 18446744073709551616)
    · split
      · exact (by omega : 0 < 18446744073709551616)
      · exact (parse_lt x.s).1
theorem Ey.fail_len (x : Ey) (f : Int) : (x.fail f).s.length ≤ x.s.length := by
  unfold Ey.fail; split <;> simp
theorem Ey.number_len (x : Ey) (most : UInt64) : (x.number most).2.s.length ≤ x.s.length := by
  unfold Ey.number
  split
  · exact Nat.le_refl _
  · split
    · exact Ey.fail_len _ _
    · split
      · exact Ey.fail_len _ _
      · simp
theorem eye_capped {x : Ey} {p : Option Addr} {cap : Nat} (h : x.s.length ≤ cap) : ∀ q n c, Value.slice p x.s.length cap = .slice q n c → x.s.length ≤ c := by
  intro q n c e; cases e; exact h

set_option maxRecDepth 100000 in
set_option maxHeartbeats 2000000 in
theorem eye_number (b : Nat) (x : Ey) (most : UInt64) (w : World) (h : EyeAt lo b x w) (hn : x.s.length ≤ 1000000000) :
    Calls Try.prog 97 #[ptr b, .int .u64 (U most)] w fun e w' => e = .returned (.int .u64 (U (UInt64.ofNat (x.number most).1))) ∧ EyeAt lo b (x.number most).2 w' ∧ Touch (fun k => k = b) w w' := by
  obtain ⟨p, cap, k0, k1, f0, f1, hc, hb, hh, hp⟩ := h.cells
  have H := Lib.hid h
  have HB := Lib.hid hb
  clear h hh f0 f1 hp hb
  go_enter Try.func97, Try.ntmps97
  by_cases h1 : x.e = 0
  · have e1 : (x.e != 0) = false := by simp [h1]
    have hx : x.number most = if (parse x.s).2.2 ≠ 0 then (0, x.fail ((parse x.s).2.2 : Int)) else if most.toNat < (parse x.s).1 then (0, x.fail 12) else ((parse x.s).1, ⟨x.s.drop (parse x.s).2.1, 0⟩) := by
      unfold Ey.number; rw [if_neg (by simp [h1])]
    have HX := Lib.hid hx
    have H1 := Lib.hid h1
    clear hx h1
    go_wp2_with fail
    refine (parse_any _ x.s w HB.out (eye_capped hc) hn).mono ?_
    rintro e w1 ⟨rfl, rfl⟩
    obtain ⟨q1, q2, q3⟩ := parse_lt x.s
    generalize parse x.s = r at *
    obtain ⟨u, n, f⟩ := r
    dsimp only at q1 q2 q3 HX ⊢
    have E1 := U_nat u q1
    by_cases h2 : f = 0
    · subst h2
      by_cases h3 : most.toNat < u
      · have e2 : decide (U most < U (UInt64.ofNat u)) = true := decide_eq_true (by rw [E1]; unfold U; omega)
        have HX2 := Lib.hid (show x.number most = (0, x.fail 12) by rw [HX.out, if_neg (by simp), if_pos h3])
        clear E1 h3 HX
        go_wp2_with fail
        refine (fail_any b x 12 w H.out).mono ?_
        rintro e w2 ⟨⟨v2, rfl⟩, a1, a2⟩
        have A1 := Lib.hid a1
        clear a1
        go_wp2_with fail
        go_ret
        rw [HX2.out]
        exact ⟨rfl, A1.out, a2⟩
      · have e2 : decide (U most < U (UInt64.ofNat u)) = false := decide_eq_false (by rw [E1]; unfold U; omega)
        have HX2 := Lib.hid (show x.number most = (u, ⟨x.s.drop n, 0⟩) by rw [HX.out, if_neg (by simp), if_neg h3])
        clear E1 h3 HX
        go_wp2_with fail
        refine (eye_take b n x w H.out q2).mono ?_
        rintro e w2 ⟨⟨v2, rfl, _⟩, a1, a2⟩
        rw [H1.out] at a1
        have A1 := Lib.hid a1
        clear a1
        go_wp2_with fail
        go_ret
        rw [HX2.out]
        exact ⟨rfl, A1.out, a2⟩
    · have e2 : ((f : Int) == 0) = false := by simp; omega
      have e3 : ((f : Int) != 0) = true := by simp; omega
      have HX2 := Lib.hid (show x.number most = (0, x.fail (f : Int)) by rw [HX.out, if_pos h2])
      clear E1 HX h2 q3
      go_wp2_with fail
      refine (fail_any b x f w H.out).mono ?_
      rintro e w2 ⟨⟨v2, rfl⟩, a1, a2⟩
      have A1 := Lib.hid a1
      clear a1
      go_wp2_with fail
      go_ret
      rw [HX2.out]
      exact ⟨rfl, A1.out, a2⟩
  · have e1 : (x.e != 0) = true := by simp [h1]
    have HX := Lib.hid (show x.number most = (0, x) by unfold Ey.number; rw [if_pos h1])
    clear h1
    go_wp2_with fail
    go_ret
    rw [HX.out]
    exact ⟨rfl, H.out, Touch.refl _ _⟩
theorem eye_signed (b : Nat) (x : Ey) (w : World) (h : EyeAt lo b x w) (hn : x.s.length ≤ 1000000000) :
    Calls Try.prog 71 #[ptr b] w fun e w' => e = .returned (.int .i64 (zagN (UInt64.ofNat (x.number 18446744073709551615).1))) ∧ EyeAt lo b (x.number 18446744073709551615).2 w' ∧ Touch (fun k => k = b) w w' := by
  have hm : (18446744073709551615 : Int) = U 18446744073709551615 := rfl
  go_enter Try.func71, Try.ntmps71
  go_wp2_with fail
  clear hm
  refine (eye_number b x _ w h hn).mono ?_
  rintro e w1 ⟨rfl, a1, a2⟩
  have A1 := Lib.hid a1
  clear a1
  go_wp2_with fail
  refine (zag_any _ w1).mono ?_
  rintro e w2 ⟨rfl, rfl⟩
  go_wp2_with fail
  go_ret
  exact ⟨rfl, A1.out, a2⟩
def Ey.fixed (x : Ey) (n : Int) : List UInt8 × Ey :=
  if x.e ≠ 0 then ([], x) else if n < 0 then ([], x.fail 2) else if (x.s.length : Int) < n then ([], x.fail 10) else (x.s.take n.toNat, ⟨x.s.drop n.toNat, x.e⟩)
theorem Ey.fixed_len (x : Ey) (n : Int) : (x.fixed n).1.length ≤ x.s.length ∧ (x.fixed n).2.s.length ≤ x.s.length := by
  unfold Ey.fixed
  split
  · simp
  · split
    · exact ⟨Nat.zero_le _, Ey.fail_len _ _⟩
    · split
      · exact ⟨Nat.zero_le _, Ey.fail_len _ _⟩
      · simp; omega
set_option maxRecDepth 100000 in
set_option maxHeartbeats 2000000 in
theorem eye_fixed (b : Nat) (x : Ey) (n : Int) (w : World) (h : EyeAt lo b x w) (hn : x.s.length ≤ 1000000000) :
    Calls Try.prog 72 #[ptr b, .int .i64 n] w fun e w' => ∃ v, e = .returned v ∧ OwnB w' v (x.fixed n).1 ∧ (∀ k, v.ownBlock = some k → w.heap.size ≤ k) ∧ EyeAt lo b (x.fixed n).2 w' ∧ Touch (fun k => k = b) w w' := by
  obtain ⟨p, cap, k0, k1, f0, f1, hc, hb, hh, hp⟩ := h.cells
  have H := Lib.hid h
  clear h hh f0 f1 hp hb
  go_enter Try.func72, Try.ntmps72
  by_cases h1 : x.e = 0
  · have e1 : (x.e != 0) = false := by simp [h1]
    by_cases h2 : n < 0
    · have e2 : decide (n < 0) = true := decide_eq_true h2
      have HX := Lib.hid (show x.fixed n = ([], x.fail 2) by unfold Ey.fixed; rw [if_neg (by simp [h1]), if_pos h2])
      clear h1 h2
      go_wp2_with fail
      refine (fail_any b x 2 w H.out).mono ?_
      rintro e w2 ⟨⟨v2, rfl⟩, a1, a2⟩
      have A1 := Lib.hid a1
      clear a1
      go_wp2_with fail
      go_ret
      rw [HX.out]
      refine ⟨.slice none 0 0, rfl, OwnB.nil _, ?_, A1.out, a2⟩
      intro k hk
      simp [Value.ownBlock] at hk
    have e2 : decide (n < 0) = false := decide_eq_false h2
    by_cases h3 : (x.s.length : Int) < n
    · have e3 : decide ((x.s.length : Int) < n) = true := decide_eq_true h3
      have HX := Lib.hid (show x.fixed n = ([], x.fail 10) by unfold Ey.fixed; rw [if_neg (by simp [h1]), if_neg h2, if_pos h3])
      clear h1 h2 h3
      go_wp2_with fail
      refine (fail_any b x 10 w H.out).mono ?_
      rintro e w2 ⟨⟨v2, rfl⟩, a1, a2⟩
      have A1 := Lib.hid a1
      clear a1
      go_wp2_with fail
      go_ret
      rw [HX.out]
      refine ⟨.slice none 0 0, rfl, OwnB.nil _, ?_, A1.out, a2⟩
      intro k hk
      simp [Value.ownBlock] at hk
    · obtain ⟨m, rfl⟩ : ∃ m : Nat, n = m := ⟨n.toNat, (Int.toNat_of_nonneg (by omega)).symm⟩
      have hm : m ≤ x.s.length := by omega
      have e3 : decide ((x.s.length : Int) < (m : Int)) = false := decide_eq_false h3
      have HX := Lib.hid (show x.fixed m = (x.s.take m, ⟨x.s.drop m, x.e⟩) by unfold Ey.fixed; rw [if_neg (by simp [h1]), if_neg h2, if_neg h3]; rfl)
      clear h1 h2 h3
      go_wp2_with fail
      refine (eye_take b m x w H.out hm).mono ?_
      rintro e w2 ⟨⟨v2, rfl, q2⟩, a1, a2⟩
      have A1 := Lib.hid a1
      have Q2 := Lib.hid q2
      clear a1 q2
      go_wp2_with fail
      refine (bytes_clone v2 _ w2 Q2.out (by simp; omega)).mono ?_
      rintro e w3 ⟨v3, rfl, c1, c2, c3⟩
      have C1 := Lib.hid c1
      have C2 := Lib.hid c2
      clear c1 c2
      go_wp2_with fail
      go_ret
      rw [HX.out]
      exact ⟨v3, rfl, C1.out, fun k hk => Nat.le_trans a2.size (C2.out k hk), A1.out.below c3, a2.trans (M' := fun k => k = b) (Touch.of_below c3) (fun _ _ h => h)⟩
  · have e1 : (x.e != 0) = true := by simp [h1]
    have HX := Lib.hid (show x.fixed n = ([], x) by unfold Ey.fixed; rw [if_pos h1])
    clear h1
    go_wp2_with fail
    go_ret
    rw [HX.out]
    refine ⟨.slice none 0 0, rfl, OwnB.nil _, ?_, H.out, Touch.refl _ _⟩
    intro k hk
    simp [Value.ownBlock] at hk
def Ey.text (x : Ey) (most : Int) : List UInt8 × Ey :=
  let r := x.number 18446744073709551615
  if r.2.e ≠ 0 then ([], r.2) else if most < 0 ∨ most < (r.1 : Int) then ([], r.2.fail 12) else r.2.fixed (r.1 : Int)
theorem Ey.text_len (x : Ey) (n : Int) : (x.text n).1.length ≤ x.s.length ∧ (x.text n).2.s.length ≤ x.s.length := by
  have h := Ey.number_len x 18446744073709551615
  unfold Ey.text
  dsimp only
  split
  · exact ⟨Nat.zero_le _, h⟩
  · split
    · exact ⟨Nat.zero_le _, Nat.le_trans (Ey.fail_len _ _) h⟩
    · have := Ey.fixed_len (x.number 18446744073709551615).2 ((x.number 18446744073709551615).1 : Int)
      omega
theorem eye_number_nil (v : Value) (w : World) : Calls Try.prog 97 #[.pointer none, v] w fun e w' => e = .returned (.int .u64 0) ∧ w = w' := by
  go_enter Try.func97, Try.ntmps97
  go_wp2_with fail
  go_ret
  exact ⟨rfl, rfl⟩
theorem eye_signed_nil (w : World) : Calls Try.prog 71 #[.pointer none] w fun e w' => e = .returned (.int .i64 0) ∧ w = w' := by
  have h0 : (0 : Int) = U 0 := rfl
  go_enter Try.func71, Try.ntmps71
  go_wp2_with fail
  refine (eye_number_nil _ w).mono ?_
  rintro e w1 ⟨rfl, rfl⟩
  clear h0
  go_wp2_with fail
  refine (show Calls Try.prog 96 #[.int .u64 0] w _ from zag_any 0 w).mono ?_
  rintro e w1 ⟨rfl, rfl⟩
  rw [show zagN 0 = 0 from rfl]
  go_wp2_with fail
  go_ret
  exact ⟨rfl, rfl⟩
theorem eye_fixed_nil (v : Value) (w : World) : Calls Try.prog 72 #[.pointer none, v] w fun e w' => e = .returned (.slice none 0 0) ∧ w = w' := by
  go_enter Try.func72, Try.ntmps72
  go_wp2_with fail
  go_ret
  exact ⟨rfl, rfl⟩
theorem left_nil (w : World) : Calls Try.prog 32 #[.pointer none] w fun e w' => e = .returned (.int .i64 0) ∧ w = w' := by
  go_enter Try.func32, Try.ntmps32
  go_wp2_with fail
  go_ret
  exact ⟨rfl, rfl⟩
theorem err_nil (w : World) : Calls Try.prog 31 #[.pointer none] w fun e w' => e = .returned (.int .i64 1) ∧ w = w' := by
  go_enter Try.func31, Try.ntmps31
  go_wp2_with fail
  go_ret
  exact ⟨rfl, rfl⟩
theorem fail_nil (v : Value) (w : World) : Calls Try.prog 73 #[.pointer none, v] w fun e w' => (∃ v, e = .returned v) ∧ w = w' := by
  go_enter Try.func73, Try.ntmps73
  go_wp2_with fail
  go_end0
  exact ⟨⟨_, rfl⟩, rfl⟩
end Go.Proofs.Ytkdbbdlkfpjdfaa

/- Contracts of package pen: the published vector.
   Conditions: those that each theorem names. -/
namespace Go.Proofs.Ytkdbbdlkfpjdfaa
set_option maxRecDepth 100000
set_option linter.unusedVariables false
set_option linter.unusedSimpArgs false
set_option linter.unusedVariables false
set_option linter.unusedSimpArgs false
open Go.RowKit Go.Rg
variable {lo : Nat}
attribute [local go_sem] Rg.q_add Rg.q_add' Rg.q_xor Rg.q_or Rg.q_and ba_app
/-! ### An eye's states, one behind the other -/
theorem EyeAt.len {b : Nat} {x y : Ey} {X : World} (h : EyeAt lo b x X) (k : EyeAt lo b y X) : x.s.length = y.s.length := by
  obtain ⟨p, c, _, h1, _⟩ := h
  obtain ⟨q, d, _, k1, _⟩ := k
  rw [h1] at k1
  simp at k1
  exact k1.1.2.1
theorem EyeAt.touch {b : Nat} {x : Ey} {X Y : World} {M : Nat → Prop} (h : EyeAt lo b x X) (hT : Below X.heap.size X Y) : EyeAt lo b x Y := h.below hT
structure Chain (b m : Nat) (x : Nat → Ey) : Prop where
  fall : ∀ i j, i < j → j ≤ m → (x j).s.length < (x i).s.length
theorem Chain.eq {b m : Nat} {x : Nat → Ey} (h : Chain b m x) {i j : Nat} {X : World} (hi : i ≤ m) (hj : j ≤ m) (h1 : EyeAt lo b (x i) X) (h2 : EyeAt lo b (x j) X) : i = j := by
  have e := h1.len h2
  rcases Nat.lt_trichotomy i j with c | c | c
  · have := h.fall i j c hj; omega
  · exact c
  · have := h.fall j i c hi; omega
def penvec : List UInt8 := [250, 1, 0, 0, 5, 2, 97, 98]
theorem num_65536 : numN 65536 = [250, 1, 0, 0] := by simp [numN, digits, beB_pos, beB_zero]
theorem size_65536 : sizeN 65536 = 4 := by simp [sizeN, digits, beB_pos, beB_zero]
theorem size_248 : sizeN 248 = 2 := by simp [sizeN, digits, beB_pos, beB_zero]
theorem num_5 : numN (zigN (-3)).toNat = [5] := by
  have : (zigN (-3)).toNat = 5 := by decide
  rw [this]; simp [numN]
theorem num_2 : numN 2 = [2] := by simp [numN]
def x0 : Ey := ⟨penvec, 0⟩
def x1 : Ey := ⟨[5, 2, 97, 98], 0⟩
def x2 : Ey := ⟨[2, 97, 98], 0⟩
def x3 : Ey := ⟨[], 0⟩
theorem step1 : x0.number 99999 = (65536, x1) := by
  simp [Ey.number, x0, x1, penvec, parse, valB, size_65536]
theorem step2 : x1.number 18446744073709551615 = (5, x2) := by
  simp [Ey.number, x1, x2, parse]
theorem step3 : x2.text 2 = ([97, 98], x3) := by
  simp [Ey.text, Ey.number, Ey.fixed, x2, x3, parse]
theorem step4 : x3.fin = x3 := rfl
/-- A pen of the call's own. -/
def PenIn (lo b : Nat) (l : List UInt8) (W : World) : Prop := ∃ r, PenAt b r l W ∧ lo ≤ b ∧ (∀ k, r = some k → lo ≤ k) ∧ lo ≤ W.heap.size
theorem PenIn.next {lo b : Nat} {l l' : List UInt8} {r r' : Option Nat} {w w' : World} (hb : lo ≤ b) (hr : ∀ k, r = some k → lo ≤ k) (hw : lo ≤ w.heap.size) (h : NewB w.heap.size r r' ∧ PenAt b r' l' w' ∧ Touch (PenM b r) w w') : PenIn lo b l' w' ∧ Below lo w w' := by
  obtain ⟨h1, h2, h3⟩ := h
  have hB : Below lo w w' := h3.below (by rintro j (rfl | h); exact hb; exact hr j h.symm) hw
  refine ⟨⟨r', h2, hb, ?_, Nat.le_trans hw hB.size⟩, hB⟩
  rintro k rfl
  rcases h1 with h | ⟨j, h, hj⟩
  · exact hr k h.symm
  · cases h; omega
theorem PenIn.below {lo b : Nat} {l : List UInt8} {w w' : World} (h : PenIn lo b l w) (hB : Below w.heap.size w w') : PenIn lo b l w' := by
  obtain ⟨r, h1, h2, h3, h4⟩ := h
  exact ⟨r, h1.below hB, h2, h3, Nat.le_trans h4 hB.size⟩
theorem number_in (u : UInt64) (lo b : Nat) (l : List UInt8) (w : World) (h : PenIn lo b l w) (hn : l.length ≤ 1000000000) :
    Calls Try.prog 94 #[ptr b, .int .u64 (U u)] w fun e w' => (∃ v, e = .returned v) ∧ PenIn lo b (l ++ numN u.toNat) w' ∧ Below lo w w' := by
  obtain ⟨r, h1, h2, h3, h4⟩ := h
  exact (number_any u b r l w h1 hn).mono fun e w' ⟨hv, r', q⟩ => ⟨hv, PenIn.next (l := l) h2 h3 h4 q⟩
theorem signed_in (n : Int) (lo b : Nat) (l : List UInt8) (w : World) (h : PenIn lo b l w) (hn : l.length ≤ 1000000000) (hi : -9223372036854775808 ≤ n ∧ n ≤ 9223372036854775807) :
    Calls Try.prog 65 #[ptr b, .int .i64 n] w fun e w' => (∃ v, e = .returned v) ∧ PenIn lo b (l ++ numN (zigN n).toNat) w' ∧ Below lo w w' := by
  obtain ⟨r, h1, h2, h3, h4⟩ := h
  exact (signed_any n b r l w h1 hn hi).mono fun e w' ⟨hv, r', q⟩ => ⟨hv, PenIn.next (l := l) h2 h3 h4 q⟩
theorem fixed_in (x : Value) (m : List UInt8) (lo b : Nat) (l : List UInt8) (w : World) (h : PenIn lo b l w) (hx : BytesAt w x m) (hn : l.length + m.length ≤ 1000000000) :
    Calls Try.prog 66 #[ptr b, x] w fun e w' => (∃ v, e = .returned v) ∧ PenIn lo b (l ++ m) w' ∧ Below lo w w' := by
  obtain ⟨r, h1, h2, h3, h4⟩ := h
  exact (fixed_any x m b r l w h1 hx hn).mono fun e w' ⟨hv, r', q⟩ => ⟨hv, PenIn.next (l := l) h2 h3 h4 q⟩
theorem bytes_in (lo b : Nat) (l : List UInt8) (w : World) (h : PenIn lo b l w) (hn : l.length ≤ 1000000000) :
    Calls Try.prog 30 #[ptr b] w fun e w' => ∃ v', e = .returned v' ∧ OwnB w' v' l ∧ (∀ k, v'.ownBlock = some k → w.heap.size ≤ k) ∧ Below w.heap.size w w' := by
  obtain ⟨r, h1, h2, h3, h4⟩ := h
  exact bytes_any b r l w h1 hn
theorem pen_new (w : World) : PenIn w.heap.size w.heap.size [] (w.alloc (.cells #[.slice none 0 0] 44)) := by
  refine ⟨none, ⟨.slice none 0 0, World.alloc_heap_new _ _, rfl, OwnB.nil _⟩, Nat.le_refl _, ?_, by simp⟩
  intro k h
  cases h
end Go.Proofs.Ytkdbbdlkfpjdfaa

