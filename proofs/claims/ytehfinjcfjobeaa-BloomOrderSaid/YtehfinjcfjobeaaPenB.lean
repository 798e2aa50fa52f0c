/- Contracts of package pen: what a pen writes.
   Conditions: those that each theorem names. -/
import Derived.Test.YtehfinjcfjobeaaPenA
namespace Go.Proofs.Ytehfinjcfjobeaa
set_option maxRecDepth 100000
set_option linter.unusedVariables false
set_option linter.unusedSimpArgs false
set_option linter.unusedVariables false
set_option linter.unusedSimpArgs false
open Go.RowKit Go.Rg
attribute [local go_sem] Rg.q_add Rg.q_add' Rg.q_xor Rg.q_or Rg.q_and ba_app
/-- A pen: its block, its row's block, what it has written. -/
def PenAt (b : Nat) (r : Option Nat) (l : List UInt8) (W : World) : Prop :=
  ∃ v, W.heap[b]? = some (.cells #[v] 68 (0, 0)) ∧ v.ownBlock = r ∧ OwnB W v l
/-- A row's block that may be new. -/
def NewB (n : Nat) (r r' : Option Nat) : Prop := r' = r ∨ ∃ k, r' = some k ∧ n ≤ k
theorem NewB.refl (n : Nat) (r : Option Nat) : NewB n r r := .inl rfl
theorem NewB.trans {n m : Nat} {r s t : Option Nat} (h : NewB n r s) (k : NewB m s t) (hnm : n ≤ m) : NewB n r t := by
  rcases k with rfl | ⟨j, rfl, hj⟩
  · exact h
  · exact .inr ⟨j, rfl, by omega⟩
abbrev PenM (b : Nat) (r : Option Nat) : Nat → Prop := fun k => k = b ∨ some k = r
theorem PenM.step {n b : Nat} {r r' : Option Nat} (h : NewB n r r') : ∀ j, j < n → PenM b r' j → PenM b r j := by
  rintro j hj (rfl | e)
  · exact .inl rfl
  · rcases h with rfl | ⟨k, rfl, hk⟩
    · exact .inr e
    · cases e; omega
theorem PenAt.keep {b : Nat} {r : Option Nat} {l : List UInt8} {W X : World} {M : Nat → Prop} (h : PenAt b r l W) (hT : Touch M W X) (hb : ¬ M b) (hr : ∀ k, r = some k → ¬ M k) : PenAt b r l X := by
  obtain ⟨v, h1, h2, h3⟩ := h
  exact ⟨v, hT.keep h1 hb, h2, h3.kept (fun g hg => hT.block g (h3.lt hg) (hr g (h2 ▸ hg)))⟩
theorem PenAt.below {b : Nat} {r : Option Nat} {l : List UInt8} {W X : World} (h : PenAt b r l W) (hX : Below W.heap.size W X) : PenAt b r l X :=
  h.keep (M := fun _ => False) (Touch.of_below hX) (fun h => h) (fun _ _ h => h)
theorem PenAt.lt {b : Nat} {r : Option Nat} {l : List UInt8} {W : World} (h : PenAt b r l W) : b < W.heap.size ∧ ∀ k, r = some k → k < W.heap.size ∧ k ≠ b := by
  obtain ⟨v, h1, h2, h3⟩ := h
  refine ⟨blk_lt h1, fun k hk => ⟨h3.lt (h2.trans hk), ?_⟩⟩
  rintro rfl
  obtain ⟨c, hc⟩ := row_block h3 (h2.trans hk)
  rw [h1] at hc; cases hc
/-- Behind an append: the box is as it was. -/
theorem PenAt.box {b : Nat} {l : List UInt8} {W w1 w2 : World} {v : Value} (h : W.heap[b]? = some (.cells #[v] 68 (0, 0))) (ho : OwnB W v l) (hA : Below W.heap.size W w1) (hg : w1.grownBy w2 v.ownBlock) : w2.heap[b]? = some (.cells #[v] 68 (0, 0)) := by
  refine (hg.block b (Nat.lt_of_lt_of_le (blk_lt h) hA.size) (fun e => ?_)).trans ((hA.block b (blk_lt h)).trans h)
  obtain ⟨c, hc⟩ := row_block ho e.symm
  rw [h] at hc; cases hc
theorem PenAt.stored {b : Nat} {l l' : List UInt8} {W w1 w2 : World} {v v' : Value} (h : W.heap[b]? = some (.cells #[v] 68 (0, 0))) (ho : OwnB W v l) (hA : Below W.heap.size W w1) (hg : w1.grownBy w2 v.ownBlock) (ho' : OwnB w2 v' l')
    (hat : v'.ownBlock = v.ownBlock ∨ v'.ownBlock = some w1.heap.size) :
    ∃ r', NewB W.heap.size v.ownBlock r' ∧ PenAt b r' l' (w2.setCell ⟨b, 0, none⟩ v') ∧ Touch (PenM b v.ownBlock) W (w2.setCell ⟨b, 0, none⟩ v') := by
  have hbox := PenAt.box h ho hA hg
  have hlt := blk_lt h
  refine ⟨v'.ownBlock, ?_, ⟨v', ?_, rfl, ho'.kept (fun g hgg => Below.heap_setCell _ _ _ _ ?_)⟩, ?_⟩
  · rcases hat with e | e
    · exact .inl e
    · exact .inr ⟨_, e, hA.size⟩
  · exact (block_set _ hbox).trans rfl
  · rintro rfl
    obtain ⟨c, hc⟩ := row_block ho' hgg
    rw [hbox] at hc; cases hc
  · refine Touch.set ?_ b 0 v' (.inl (.inl rfl))
    refine Touch.trans (M' := PenM b v.ownBlock) (Touch.of_below hA) (Touch.of_grown hg (fun j hj => .inr hj.symm)) (fun j _ h => h)
theorem own_snoc {w : World} {v : Value} {l : List UInt8} {c : UInt8} (h : w.ownsRow 0 5 1 v (l.length + 1) (l.map byteV ++ [byteV c])) : OwnB w v (l ++ [c]) := by
  unfold OwnB
  rw [List.length_append, List.map_append]
  exact h

theorem digits_div (n k : Nat) : digits (n / 256 ^ k) = digits n - k := by
  induction k with
  | zero => simp
  | succ k ih =>
    rw [Nat.pow_succ, ← Nat.div_div_eq_div_mul]
    by_cases h : n / 256 ^ k = 0
    · rw [h]; rw [h, digits_zero] at ih; simp [digits_zero]; omega
    · have := digits_pos _ h; omega
theorem beB_step (n k : Nat) (h : k < digits n) : beB (n / 256 ^ k) = beB (n / 256 ^ (k + 1)) ++ [UInt8.ofNat (n / 256 ^ k % 256)] := by
  have h0 : n / 256 ^ k ≠ 0 := by
    intro h0
    have := digits_div n k
    rw [h0, digits_zero] at this
    omega
  rw [beB_pos _ h0, Nat.pow_succ, ← Nat.div_div_eq_div_mul]
theorem beB_top (n : Nat) : beB (n / 256 ^ digits n) = [] := by
  have := digits_div n (digits n)
  rw [Nat.sub_self] at this
  exact List.length_eq_zero_iff.1 this
def numN (n : Nat) : List UInt8 := if n ≤ 247 then [UInt8.ofNat n] else UInt8.ofNat (247 + digits n) :: beB n
theorem numN_length (n : Nat) : (numN n).length = sizeN n := by
  unfold numN sizeN digits
  split <;> simp
  omega

set_option maxRecDepth 100000 in
set_option maxHeartbeats 4000000 in
theorem number_any (u : UInt64) (b : Nat) (r : Option Nat) (l : List UInt8) (w : World) (h : PenAt b r l w) (hn : l.length ≤ 1000000000) :
    Calls Try.prog 48 #[ptr b, .int .u64 (U u)] w fun e w' => (∃ v, e = .returned v) ∧ ∃ r', NewB w.heap.size r r' ∧ PenAt b r' (l ++ numN u.toNat) w' ∧ Touch (PenM b r) w w' := by
  obtain ⟨v, h1, rfl, h3⟩ := h
  obtain ⟨i0, hi0, hz0, hz1, hz2⟩ := info_parts infoC
  have hlt := u.toNat_lt
  have c0 : w.cell? ⟨b, 0, none⟩ = some v := by simp [World.cell?, h1]
  obtain ⟨pv, cv, rfl, hlc, _, _⟩ := h3.shape
  go_enter Try.func48, Try.ntmps48
  by_cases hs : u.toNat ≤ 247
  · have e1 : decide (U u ≤ 247) = true := decide_eq_true (by unfold U; omega)
    have e2 : IntKind.u8.wrap (U u) = ((UInt8.ofNat u.toNat).toNat : Int) := by rw [IntKind.wrap_u8]; unfold U; simp
    have HE := Lib.hid hs
    obtain ⟨c, hc⟩ : ∃ c, c = UInt8.ofNat u.toNat := ⟨_, rfl⟩
    rw [← hc] at e2
    have HCC := Lib.hid hc
    have hA := (Below.refl w.heap.size w).alloc (Nat.le_refl _) (.cells #[.int .u8 (c.toNat : Int)] 5)
    have HO := Lib.hid (h3.kept (w' := w.alloc (.cells #[.int .u8 (c.toNat : Int)] 5)) (fun g hg => hA.block g (h3.lt hg)))
    have HC := Lib.hid (cell_of_lit (World.alloc_heap_new w (.cells #[.int .u8 (c.toNat : Int)] 5)))
    have hm : l.length + 1 ≤ maxLen := by unfold maxLen; omega
    have hm2 : (l.length + 1) * 1 ≤ 140737488355328 := by omega
    have H1 := Lib.hid h1
    have H3 := Lib.hid h3
    clear h1 h3 hc hs
    go_wp2_with (at_builtin; refine wpList_append_own_at _ rfl _ _ 25 rfl 0 5 i0 (.int .u8 0) 1 1 Try.underlying25 hi0 hz0 hz1 hz2 rfl (by decide) _ l.length (l.map byteV) rfl HO.out ⟨w.heap.size, 0, none⟩ 1 1 [.int .u8 (c.toNat : Int)] rfl rfl HC.out (by simp [Value.oneCell']) hm hm2 (Nat.zero_le _) ?_)
    intro v' w2 ho hg hni hat
    obtain ⟨g', cp', e'⟩ := ownsRow_succ ho
    have hbox := PenAt.box H1.out H3.out hA hg
    have f2 := free_of hbox 0
    have c2 : w2.cell? ⟨b, 0, none⟩ = some (.slice pv l.length cv) := by simp [World.cell?, hbox]
    obtain ⟨r', q1, q2, q3⟩ := PenAt.stored H1.out H3.out hA hg (own_snoc (c := c) ho) (by simpa using hat)
    subst e'
    have Q1 := Lib.hid q1
    have Q2 := Lib.hid q2
    have Q3 := Lib.hid q3
    clear q1 q2 q3 hbox ho hat hni hg
    go_wp2_with fail
    refine bodyPost_ret (results_none rfl _ _ _) rfl ?_
    refine ⟨⟨_, rfl⟩, r', Q1.out, ?_, Q3.out⟩
    have e : numN u.toNat = [c] := by unfold numN; rw [if_pos HE.out, HCC.out]
    rw [e]
    exact Q2.out
  · have e1 : decide (U u ≤ 247) = false := decide_eq_false (by unfold U; omega)
    have hd8 : digits u.toNat ≤ 8 := digits_lt 8 u.toNat (by omega)
    have hsz : sizeN u.toNat = 1 + digits u.toNat := by unfold sizeN; rw [if_neg hs]
    obtain ⟨n, hn'⟩ : ∃ n, n = digits u.toNat := ⟨_, rfl⟩
    have hHN := Lib.hid hn'
    have HH := Lib.hid hs
    have H1 := Lib.hid h1
    have H3 := Lib.hid h3
    have hn8 : n ≤ 8 := by omega
    clear hs h1 h3
    go_wp2_with fail
    refine (size_any u w).mono ?_
    rintro e w1 ⟨rfl, rfl⟩
    rw [hsz, ← hn', Nat.add_comm]
    clear hsz hn' hd8
    obtain ⟨c, hc⟩ : ∃ c, c = UInt8.ofNat (247 + n) := ⟨_, rfl⟩
    have e2 : IntKind.u8.wrap (247 + (n : Int)) = (c.toNat : Int) := by rw [hc, IntKind.wrap_u8, UInt8.toNat_ofNat']; omega
    have HCC := Lib.hid hc
    have hA := (Below.refl w.heap.size w).alloc (Nat.le_refl _) (.cells #[.int .u8 (c.toNat : Int)] 5)
    have HO := Lib.hid (H3.out.kept (w' := w.alloc (.cells #[.int .u8 (c.toNat : Int)] 5)) (fun g hg => hA.block g (H3.out.lt hg)))
    have HC := Lib.hid (cell_of_lit (World.alloc_heap_new w (.cells #[.int .u8 (c.toNat : Int)] 5)))
    have hm : l.length + 1 ≤ maxLen := by unfold maxLen; omega
    have hm2 : (l.length + 1) * 1 ≤ 140737488355328 := by omega
    clear hc
    go_wp2_with (at_builtin; refine wpList_append_own_at _ rfl _ _ 25 rfl 0 5 i0 (.int .u8 0) 1 1 Try.underlying25 hi0 hz0 hz1 hz2 rfl (by decide) _ l.length (l.map byteV) rfl HO.out ⟨w.heap.size, 0, none⟩ 1 1 [.int .u8 (c.toNat : Int)] rfl rfl HC.out (by simp [Value.oneCell']) hm hm2 (Nat.zero_le _) ?_)
    intro v' w2 ho hg hni hat
    obtain ⟨g', cp', e'⟩ := ownsRow_succ ho
    have hbox := PenAt.box H1.out H3.out hA hg
    have f2 := free_of hbox 0
    have c2 : w2.cell? ⟨b, 0, none⟩ = some (.slice pv l.length cv) := by simp [World.cell?, hbox]
    obtain ⟨r', q1, q2, q3⟩ := PenAt.stored H1.out H3.out hA hg (own_snoc (c := c) ho) (by simpa using hat)
    subst e'
    have Q1 := Lib.hid q1
    have Q2 := Lib.hid q2
    have Q3 := Lib.hid q3
    clear q1 q2 q3 hbox ho hat hni hg
    go_wp2_with fail
    generalize w2.setCell ⟨b, 0, none⟩ (.slice (some ⟨g', 0, none⟩) (l.length + 1) cp') = w3 at *
    clear f2 c2
    go_loopw [5] (fun i wr => ∃ (m : Nat) (r2 : Option Nat), m ≤ n ∧ i = .int .i64 ((m : Int) - 1) ∧ Hid (NewB w.heap.size (Value.slice pv l.length cv).ownBlock r2) ∧ Hid (PenAt b r2 (l ++ [c] ++ beB (u.toNat / 256 ^ m)) wr) ∧ Hid (Touch (PenM b (Value.slice pv l.length cv).ownBlock) w wr)) (fun i _ => (intOf i + 1).toNat)
    case atStart => exact ⟨n, r', Nat.le_refl _, rfl, Q1, Lib.hid (by rw [hHN.out, beB_top, List.append_nil]; exact Q2.out), Q3⟩
    case round =>
      obtain ⟨m, r2, hm, rfl, K1, K2, K3⟩ := hrel
      cases m with
      | zero =>
        go_wp2_with fail
        go_end0
        refine ⟨⟨_, rfl⟩, r2, K1.out, ?_, K3.out⟩
        have e : numN u.toNat = c :: beB u.toNat := by unfold numN; rw [if_neg HH.out, HCC.out, hHN.out]
        rw [e]
        have := K2.out
        rw [Nat.pow_zero, Nat.div_one, List.append_assoc] at this
        exact this
      | succ m =>
        have e4 : ((m + 1 : Nat) : Int) - 1 = (m : Int) := by omega
        rw [e4]
        have e5 : decide (0 ≤ (m : Int)) = true := decide_eq_true (by omega)
        have hL : (l ++ [c] ++ beB (u.toNat / 256 ^ (m + 1))).length ≤ 1000000100 := by
          have h1 := digits_div u.toNat (m + 1)
          rw [← hHN.out] at h1
          unfold digits at h1
          simp only [List.length_append, List.length_cons, List.length_nil]
          omega
        obtain ⟨x, hx⟩ : ∃ x, x = UInt8.ofNat (u.toNat / 256 ^ m % 256) := ⟨_, rfl⟩
        have hbe : l ++ [c] ++ beB (u.toNat / 256 ^ m) = (l ++ [c] ++ beB (u.toNat / 256 ^ (m + 1))) ++ [x] := by
          rw [beB_step u.toNat m (by rw [← hHN.out]; omega), hx]; simp
        have hxv : IntKind.u8.wrap (U u / 2 ^ (8 * m)) = (x.toNat : Int) := by
          rw [q_shr u (8 * m) (by omega), IntKind.wrap_u8, hx, UInt8.toNat_ofNat']
          unfold U
          rw [UInt64.toNat_shiftRight]
          have : (8 * m).toUInt64.toNat % 64 = 8 * m := by
            show (UInt64.ofNat _).toNat % 64 = _
            rw [UInt64.toNat_ofNat']; omega
          rw [this, Nat.shiftRight_eq_div_pow, show (2 : Nat) ^ (8 * m) = 256 ^ m by rw [Nat.pow_mul]]
          omega
        have HBE := Lib.hid hbe
        clear hx hbe
        obtain ⟨v2, h1, h2, h3⟩ := K2.out
        subst h2
        generalize l ++ [c] ++ beB (u.toNat / 256 ^ (m + 1)) = l2 at *
        obtain ⟨p2, k2, rfl, hlc2, _, _⟩ := h3.shape
        have hbw := blk_lt h1
        obtain ⟨vB, hvB⟩ : ∃ vB, vB = (Value.slice p2 l2.length k2).ownBlock := ⟨_, rfl⟩
        have hvl : ∀ k, vB = some k → k < wr.heap.size := fun k hk => h3.lt (hvB.symm.trans hk)
        have H1' := Lib.hid h1
        have H3' := Lib.hid h3
        have HV := Lib.hid hvB
        have HVL := Lib.hid hvl
        clear h1 h3 hvB hvl c0 K2
        go_wp2_with fail
        refine wp_region_steps [[], [], [1], [2], [3], [], [], [6], [5, 7], [8], [9], [4, 10], [0], [12], [13, 11, 4]]
          (fun X => Touch (fun k => k = b ∨ some k = vB) wr X)
          (fun j X => (j = 4 ∨ j = 14 → X.heap[b]? = some (.cells #[.slice p2 l2.length k2] 68 (0, 0))) ∧ (j = 11 → OwnB X (.slice p2 l2.length k2) l2))
          (fun j X Y => X.grownBy Y (if j = 11 then vB else if j = 14 then some b else none))
          (by kernel_rfl) (by kernel_rfl) (by kernel_rfl) (by decide) (Touch.drew _ _) (fun _ => ⟨fun _ => H1'.out, fun _ => H3'.out⟩) ?hCG ?hBG ?hst
        case hCG =>
          intro j X Y hj hC hB hG
          refine hC.trans (M' := fun k => k = b ∨ some k = vB) (Touch.of_grown hG (fun k hk => ?_)) (fun _ _ h => h)
          by_cases h11 : j = 11
          · rw [if_pos h11] at hk; exact .inr hk.symm
          · rw [if_neg h11] at hk
            by_cases h14 : j = 14
            · rw [if_pos h14] at hk; cases hk; exact .inl rfl
            · rw [if_neg h14] at hk; cases hk
        case hBG =>
          intro i' j X Y hi' hj hji hpre hC hBj hG hBi
          refine ⟨fun h => ?_, fun h => OwnB.kept (hBi.2 h) (fun g hg => hG.block g (OwnB.lt (hBi.2 h) hg) ?_)⟩
          · refine (hG.block b (blk_lt (hBi.1 h)) ?_).trans (hBi.1 h)
            intro e
            by_cases h11 : j = 11
            · rw [if_pos h11] at e
              obtain ⟨c', hc'⟩ := row_block (hBj.2 h11) ((HV.out.symm.trans e.symm))
              rw [hBi.1 h] at hc'; cases hc'
            · rw [if_neg h11] at e
              by_cases h14 : j = 14
              · subst h14
                rcases h with rfl | rfl
                · exact hpre (by decide)
                · exact hji rfl
              · rw [if_neg h14] at e; cases e
          · subst h
            rw [if_neg hji]
            by_cases h14 : j = 14
            · subst h14; exact absurd (by decide) hpre
            · rw [if_neg h14]; exact fun e => by cases e
        case hst =>
          repeat
            (apply steps_fx
             · intro vs X hC hB hA
               try simp only [List.getD_cons_zero, List.getD_cons_succ, List.forall_mem_cons, List.not_mem_nil, false_implies, implies_true, and_true] at hA
               simp only [List.getD_cons_zero, List.getD_cons_succ, putL, dstOf, List.foldl_nil, List.foldl_cons, List.getElem?_toArray, List.getElem?_cons_zero, List.getElem?_cons_succ, Option.bind_some, Act.put, List.setIfInBounds_toArray, List.set_cons_zero, List.set_cons_succ]
               try simp only [hA]
               go_wp2_with fail
               exact ⟨_, rfl, World.grownBy.refl _ _, rfl⟩
             simp only [List.cons_append, List.nil_append])
          apply steps_fx
          · intro vs X hC hB hA
            try simp only [List.getD_cons_zero, List.getD_cons_succ, List.forall_mem_cons, List.not_mem_nil, false_implies, implies_true, and_true] at hA
            simp only [List.getD_cons_zero, List.getD_cons_succ, putL, dstOf, List.foldl_nil, List.foldl_cons, List.getElem?_toArray, List.getElem?_cons_zero, List.getElem?_cons_succ, Option.bind_some, Act.put, List.setIfInBounds_toArray, List.set_cons_zero, List.set_cons_succ]
            try simp only [hA]
            have hc := hB.1 (.inl rfl)
            have hcc : X.cell? ⟨b, 0, none⟩ = some (.slice p2 l2.length k2) := by simp [World.cell?, hc]
            go_wp2_with fail
            exact ⟨_, rfl, World.grownBy.refl _ _, rfl⟩
          simp only [List.cons_append, List.nil_append]
          repeat
            (apply steps_fx
             · intro vs X hC hB hA
               try simp only [List.getD_cons_zero, List.getD_cons_succ, List.forall_mem_cons, List.not_mem_nil, false_implies, implies_true, and_true] at hA
               simp only [List.getD_cons_zero, List.getD_cons_succ, putL, dstOf, List.foldl_nil, List.foldl_cons, List.getElem?_toArray, List.getElem?_cons_zero, List.getElem?_cons_succ, Option.bind_some, Act.put, List.setIfInBounds_toArray, List.set_cons_zero, List.set_cons_succ]
               try simp only [hA]
               go_wp2_with fail
               exact ⟨_, rfl, World.grownBy.refl _ _, rfl⟩
             simp only [List.cons_append, List.nil_append])
          refine steps_pr (fun v X => LitAt wr.heap.size (.int .u8 (x.toNat : Int)) 5 v X) ?_ ?_ ?_
          · rintro j v X Y hj hji hpre hC hBj hG ⟨g, h1, h2, h4⟩
            refine ⟨g, h1, h2, (hG.block g (blk_lt h4) (fun e => ?_)).trans h4⟩
            by_cases h11 : j = 11
            · rw [if_pos h11] at e; have := HVL.out g e.symm; omega
            · rw [if_neg h11] at e
              by_cases h14 : j = 14
              · rw [if_pos h14] at e; cases e; omega
              · rw [if_neg h14] at e; cases e
          · intro vs X hC hB hA
            try simp only [List.getD_cons_zero, List.getD_cons_succ, List.forall_mem_cons, List.not_mem_nil, false_implies, implies_true, and_true] at hA
            simp only [List.getD_cons_zero, List.getD_cons_succ, putL, dstOf, List.foldl_nil, List.foldl_cons, List.getElem?_toArray, List.getElem?_cons_zero, List.getElem?_cons_succ, Option.bind_some, Act.put, List.setIfInBounds_toArray, List.set_cons_zero, List.set_cons_succ]
            try simp only [hA]
            go_wp2_with fail
            exact ⟨_, rfl, World.grownBy_alloc _ _ _, X.heap.size, rfl, hC.size, World.alloc_heap_new _ _⟩
          simp only [List.cons_append, List.nil_append]
          refine steps_pr (fun v X => OwnB X v (l2 ++ [x]) ∧ NewB wr.heap.size vB v.ownBlock) ?_ ?_ ?_
          · rintro j v X Y hj hji hpre hC hBj hG ⟨h1, h2⟩
            refine ⟨OwnB.kept h1 (fun g hg => hG.block g (OwnB.lt h1 hg) (fun e => ?_)), h2⟩
            rw [if_neg hji] at e
            by_cases h14 : j = 14
            · rw [if_pos h14] at e; cases e
              obtain ⟨c', hc'⟩ := row_block h1 hg
              rw [hBj.1 (.inr h14)] at hc'; cases hc'
            · rw [if_neg h14] at e; cases e
          · intro vs X hC hB hA
            try simp only [List.getD_cons_zero, List.getD_cons_succ, List.forall_mem_cons, List.not_mem_nil, false_implies, implies_true, and_true] at hA
            simp only [List.getD_cons_zero, List.getD_cons_succ, putL, dstOf, List.foldl_nil, List.foldl_cons, List.getElem?_toArray, List.getElem?_cons_zero, List.getElem?_cons_succ, Option.bind_some, Act.put, List.setIfInBounds_toArray, List.set_cons_zero, List.set_cons_succ]
            try simp only [hA]
            obtain ⟨a4, ⟨g6, e6, l6, c6⟩⟩ := hA
            rw [e6]
            have hO := hB.2 rfl
            have hvb : (Value.slice p2 l2.length k2).ownBlock = vB := HV.out.symm
            refine wpList_append_own_at _ rfl _ _ 25 rfl 0 5 i0 (.int .u8 0) 1 1 Try.underlying25 hi0 hz0 hz1 hz2 rfl (by decide) _ l2.length (l2.map byteV) rfl hO ⟨g6, 0, none⟩ 1 1 [.int .u8 (x.toNat : Int)] rfl rfl (cell_of_lit c6) (by simp [Value.oneCell']) (by unfold maxLen; omega) (by omega) (Nat.zero_le _) ?_
            intro v' w' ho hg' _ hat
            have hg2 : X.grownBy w' vB := by rw [← hvb]; exact hg'
            have hat2 : v'.ownBlock = vB ∨ v'.ownBlock = some X.heap.size := by rw [← hvb]; exact hat
            refine ⟨v', rfl, hg2, own_snoc ho, ?_⟩
            rcases hat2 with e | e
            · exact .inl e
            · exact .inr ⟨_, e, hC.size⟩
          simp only [List.cons_append, List.nil_append]
          repeat
            (apply steps_fx
             · intro vs X hC hB hA
               try simp only [List.getD_cons_zero, List.getD_cons_succ, List.forall_mem_cons, List.not_mem_nil, false_implies, implies_true, and_true] at hA
               simp only [List.getD_cons_zero, List.getD_cons_succ, putL, dstOf, List.foldl_nil, List.foldl_cons, List.getElem?_toArray, List.getElem?_cons_zero, List.getElem?_cons_succ, Option.bind_some, Act.put, List.setIfInBounds_toArray, List.set_cons_zero, List.set_cons_succ]
               try simp only [hA]
               go_wp2_with fail
               exact ⟨_, rfl, World.grownBy.refl _ _, rfl⟩
             simp only [List.cons_append, List.nil_append])
          refine steps_pr (fun v X => ∃ v', X.heap[b]? = some (.cells #[v'] 68 (0, 0)) ∧ OwnB X v' (l2 ++ [x]) ∧ NewB wr.heap.size vB v'.ownBlock) ?_ ?_ ?_
          · rintro j v X Y hj hji hpre hC hBj hG ⟨v', h1, h2, h3⟩
            have hno : (if j = 11 then vB else if j = 14 then some b else none) = none := by
              rw [if_neg hji]
              by_cases h11 : j = 11
              · subst h11; exact absurd (by decide) hpre
              · rw [if_neg h11]
            rw [hno] at hG
            exact ⟨v', (hG.block b (blk_lt h1) (fun e => by cases e)).trans h1, OwnB.kept h2 (fun g hg => hG.block g (OwnB.lt h2 hg) (fun e => by cases e)), h3⟩
          · intro vs X hC hB hA
            try simp only [List.getD_cons_zero, List.getD_cons_succ, List.forall_mem_cons, List.not_mem_nil, false_implies, implies_true, and_true] at hA
            simp only [List.getD_cons_zero, List.getD_cons_succ, putL, dstOf, List.foldl_nil, List.foldl_cons, List.getElem?_toArray, List.getElem?_cons_zero, List.getElem?_cons_succ, Option.bind_some, Act.put, List.setIfInBounds_toArray, List.set_cons_zero, List.set_cons_succ]
            try simp only [hA]
            obtain ⟨a13, ⟨o11, n11⟩, a4⟩ := hA
            obtain ⟨g', cp', e'⟩ := ownsRow_succ (show X.ownsRow 0 5 1 (vs 11) (l2.length + 1) ((l2 ++ [x]).map byteV) by have := o11; unfold OwnB at this; simpa using this)
            rw [e'] at o11 n11 ⊢
            have hbx := hB.1 (.inr rfl)
            have f2 := free_of hbx 0
            have cc2 : X.cell? ⟨b, 0, none⟩ = some (.slice p2 l2.length k2) := by simp [World.cell?, hbx]
            have O11 := Lib.hid o11
            have N11 := Lib.hid n11
            clear o11 n11
            go_wp2_with fail
            refine ⟨undef, rfl, grownBy_setCell' X b _, _, (block_set _ hbx).trans rfl, O11.out.kept (fun g hg => Below.heap_setCell _ _ _ _ ?_), N11.out⟩
            rintro rfl
            obtain ⟨c', hc'⟩ := row_block O11.out hg
            rw [hbx] at hc'; cases hc'
          simp only [List.cons_append, List.nil_append]
          refine steps_nil ?_
          intro vs X hC hA
          rw [(fun (l : List Oper) (h : l.length = 15) => (by rw [h]; rfl : List.range l.length = [0, 1, 2, 3, 4, 5, 6, 7, 8, 9, 10, 11, 12, 13, 14])) _ rfl]
          simp only [List.getD_cons_zero, List.getD_cons_succ, putL, dstOf, List.foldl_nil, List.foldl_cons, List.getElem?_toArray, List.getElem?_cons_zero, List.getElem?_cons_succ, Option.bind_some, Act.put, List.setIfInBounds_toArray, List.set_cons_zero, List.set_cons_succ]
          obtain ⟨v', h1, h2, h3⟩ : ∃ v', X.heap[b]? = some (.cells #[v'] 68 (0, 0)) ∧ OwnB X v' (l2 ++ [x]) ∧ NewB wr.heap.size vB v'.ownBlock := hA 14 (by decide)
          clear hA
          have hwr := K3.out.size
          rw [← HV.out] at K1
          have q1 := Lib.hid (NewB.trans K1.out h3 hwr)
          have q2 := Lib.hid (show PenAt b v'.ownBlock (l ++ [c] ++ beB (u.toNat / 256 ^ m)) X by rw [HBE.out]; exact ⟨v', h1, rfl, h2⟩)
          have q3 := Lib.hid (Touch.trans K3.out hC (PenM.step K1.out))
          clear h1 h2 h3 hC
          go_wp2_with fail
          refine ⟨⟨m, v'.ownBlock, by omega, ?_, q1, q2, q3⟩, ?_⟩
          · go_num
          · simp [intOf]
end Go.Proofs.Ytehfinjcfjobeaa
