/- What law 11 asks first.
   Conditions: none. -/
import Derived.Test.YtkdbbdlkfpjdfaaIbP
import Derived.Test.YtkdbbdlkfpjdfaaIbS
namespace Go.Proofs.Ytkdbbdlkfpjdfaa
set_option maxRecDepth 100000
set_option linter.unusedVariables false
set_option linter.unusedSimpArgs false
open Go.RowKit Go.Rg
attribute [local go_sem] markV cellV
abbrev mC (x : Int) : Array Value := #[.int .u8 x, .int .u8 0, .int .u8 0, .int .u8 0, .int .u8 0, .int .u8 0, .int .u8 0, .int .u8 0, .int .u8 0, .int .u8 0, .int .u8 0, .int .u8 0, .int .u8 0, .int .u8 0, .int .u8 0, .int .u8 0]
theorem m1_c : (m1.map byteV).toArray = mC 1 := rfl
theorem m2_c : (m2.map byteV).toArray = mC 2 := rfl
theorem mk_marks1 (a : List UInt8) (ha : a.length = 16) (w : World) : (Instr.buildSlice 28 1 #[(0, markV a)]).run Try.prog w = .ok (.slice (some ⟨w.heap.size, 0, none⟩) 1 1) (w.alloc (.cells (a.map byteV).toArray 23)) := by
  obtain ⟨a0, a1, a2, a3, a4, a5, a6, a7, a8, a9, b0, b1, b2, b3, b4, b5, rfl⟩ := list16 ha
  kernel_rfl
theorem marks1_at (a : List UInt8) (ha : a.length = 16) (w : World) : MarksAt (w.alloc (.cells (a.map byteV).toArray 23)) (.slice (some ⟨w.heap.size, 0, none⟩) 1 1) [a] := by
  have hbk : (w.alloc (.cells (a.map byteV).toArray 23)).heap[w.heap.size]? = some (.cells (a.map byteV).toArray 23 (0, 0)) := World.alloc_heap_new _ _
  refine ⟨_, 1, rfl, Nat.le_refl _, fun i m hi => ⟨w.heap.size, 0, rfl, blk_lt hbk, blk_range hbk _ _ (fun j v hv => ?_)⟩⟩
  match i, hi with
  | 0, hi =>
    cases hi
    rw [show 0 + 0 * 16 + j = j by omega, hv]
theorem fits6 : fitsC ((6 : Nat) : Int) := ⟨by decide, by decide, by decide⟩
theorem pl1 : pcV (hash4 m1) 1 = [.int .i64 0, .int .i64 1, .int .i64 2] := by
  unfold pcV pcN
  simp only [Nat.mod_one]
  rfl
abbrev mCC : Array Value := mC 1 ++ mC 2
theorem eq_ints {P : Program} (w : World) (d : Nat) (t e : TypeId) (n : Nat) (ht : P.underlying t = some (.array n e)) (he : P.underlying e = some (.int .i64)) (hsz : ∀ w, (sizeOf e).run P w = .ok 1 w)
    (xs : List Int) (hx : xs.length = n) :
    (Op.equalIn (d + 2) t (.agg (xs.map (Value.int .i64)).toArray) (.agg (xs.map (Value.int .i64)).toArray)).run P w = .ok true w := by
  rw [Op.equalIn]
  simp only [Sem.run_bind, run_underlying ht, Result.andThen_ok, hsz, Std.Legacy.Range.forIn_eq_forIn_range', Std.Legacy.Range.size, Nat.sub_zero, Nat.add_sub_cancel, Nat.div_one]
  have hl : ∀ i ∈ List.range' 0 n 1, i < n := fun i hi => by simpa using (List.mem_range'_1.1 hi).2
  generalize List.range' 0 n 1 = l at hl ⊢
  induction l with
  | nil => simp
  | cons i l ih =>
    have hi : i < n := hl i (by simp)
    have px : (part e (xs.map (Value.int .i64)).toArray (i * 1)).run P w = .ok (Value.int .i64 (xs.getD i 0)) w := by
      simp [part, isAgg, run_underlying he, List.getD, List.getElem?_eq_getElem (show i < xs.length by omega)]
    have pe : (Op.equalIn (d + 1) e (Value.int .i64 (xs.getD i 0)) (Value.int .i64 (xs.getD i 0))).run P w = .ok true w := by
      rw [run_equalIn_int w d e .i64 .i64 _ _ he]; simp
    simp only [List.forIn_cons, Sem.run_bind, px, pe, Result.andThen_ok]
    simp only [Bool.not_true, Bool.false_eq_true, if_false, Sem.run_pure, Result.andThen_ok]
    exact ih fun j hj => hl j (by simp [hj])
theorem eqv_three (a b c : Int) (x y : Operand) (w : World) : (do eqGuard .eql 64 x y (.agg #[.int .i64 a, .int .i64 b, .int .i64 c]) (.agg #[.int .i64 a, .int .i64 b, .int .i64 c]); binOp .eql 64 (.agg #[.int .i64 a, .int .i64 b, .int .i64 c]) (.agg #[.int .i64 a, .int .i64 b, .int .i64 c]) : Sem Value).run Try.prog w = .ok (.bool true) w := by
  rw [Sem.run_bind, run_eqGuard_agg w .eql 64 x y _ _ (by kernel_rfl), Result.andThen_ok, run_eql_struct]
  have := eq_ints (P := Try.prog) w 9998 64 3 3 rfl rfl (fun w => by kernel_rfl) [a, b, c] rfl
  rw [show Op.equalIn 10000 64 (.agg #[.int .i64 a, .int .i64 b, .int .i64 c]) (.agg #[.int .i64 a, .int .i64 b, .int .i64 c]) = Op.equalIn (9998 + 2) 64 (.agg ([a, b, c].map (Value.int .i64)).toArray) (.agg ([a, b, c].map (Value.int .i64)).toArray) from rfl, this]; rfl
abbrev l12 : List Ce := putAll Ce.add (List.replicate 6 Ce.zero) [m1, m2]
abbrev l2 : List Ce := putAll Ce.add (List.replicate 6 Ce.zero) [m2]
theorem of_start (w : World) : Calls Try.prog 36 #[.int .i64 ((6 : Nat) : Int), .slice (some ⟨w.heap.size + 1 + 1, 0, none⟩) 2 2] (((w.alloc (.cells (m1.map byteV).toArray 23)).alloc (.cells (m2.map byteV).toArray 23)).alloc (.cells (m1.map byteV ++ m2.map byteV).toArray 23)) fun e w' =>
    ∃ k v, e = .returned (.tuple #[ptr k, .int .i64 0]) ∧ SkAt k v l12 w' ∧ w'.heap[w.heap.size]? = some (.cells (m1.map byteV).toArray 23 (0, 0)) ∧ w'.heap[w.heap.size + 1]? = some (.cells (m2.map byteV).toArray 23 (0, 0)) ∧ Below w.heap.size w w' := by
  have B1 : Below w.heap.size w (w.alloc (.cells (m1.map byteV).toArray 23)) := (Below.refl _ _).alloc (Nat.le_refl _) _
  have h1 : (w.alloc (.cells (m1.map byteV).toArray 23)).heap[w.heap.size]? = some (.cells (m1.map byteV).toArray 23 (0, 0)) := World.alloc_heap_new _ _
  have z1 : (w.alloc (.cells (m1.map byteV).toArray 23)).heap.size = w.heap.size + 1 := by simp
  generalize w.alloc (.cells (m1.map byteV).toArray 23) = w1 at *
  have B2 : Below w1.heap.size w1 (w1.alloc (.cells (m2.map byteV).toArray 23)) := (Below.refl _ _).alloc (Nat.le_refl _) _
  have h2 : (w1.alloc (.cells (m2.map byteV).toArray 23)).heap[w1.heap.size]? = some (.cells (m2.map byteV).toArray 23 (0, 0)) := World.alloc_heap_new _ _
  have z2 : (w1.alloc (.cells (m2.map byteV).toArray 23)).heap.size = w1.heap.size + 1 := by simp
  generalize w1.alloc (.cells (m2.map byteV).toArray 23) = w2 at *
  have B3 : Below w2.heap.size w2 (w2.alloc (.cells (m1.map byteV ++ m2.map byteV).toArray 23)) := (Below.refl _ _).alloc (Nat.le_refl _) _
  have hm := marks2_at m1 m2 rfl rfl w2
  generalize w2.alloc (.cells (m1.map byteV ++ m2.map byteV).toArray 23) = w3 at *
  rw [z2, z1] at hm
  rw [z1] at h2
  have hs1 := B1.size
  refine (cof_any 6 fits6 _ [m1, m2] w3 hm (by intro m hm; simp at hm; rcases hm with rfl | rfl <;> rfl) (by decide)).mono ?_
  rintro e w' ⟨k, v, rfl, hA, _, _, hB⟩
  have B23 := B3.trans (hB.mono B3.size)
  refine ⟨k, v, rfl, hA, ?_, ?_, ?_⟩
  · rw [B23.block _ (by omega), B2.block _ (by omega)]; exact h1
  · rw [B23.block _ (by omega)]; exact h2
  · exact B1.trans ((B2.trans (B23.mono B2.size)).mono B1.size)
theorem of_one (w : World) : Calls Try.prog 36 #[.int .i64 ((6 : Nat) : Int), .slice (some ⟨w.heap.size, 0, none⟩) 1 1] (w.alloc (.cells (m2.map byteV).toArray 23)) fun e w' =>
    ∃ k v, e = .returned (.tuple #[ptr k, .int .i64 0]) ∧ SkAt k v l2 w' ∧ Below w.heap.size w w' := by
  have B1 : Below w.heap.size w (w.alloc (.cells (m2.map byteV).toArray 23)) := (Below.refl _ _).alloc (Nat.le_refl _) _
  refine (cof_any 6 fits6 _ [m2] _ (marks1_at m2 rfl w) (by intro m hm; simp at hm; subst hm; rfl) (by decide)).mono ?_
  rintro e w' ⟨k, v, rfl, hA, _, _, hB⟩
  exact ⟨k, v, rfl, hA, B1.trans (hB.mono B1.size)⟩
theorem l12_len : l12.length = 6 := by unfold l12; rw [putAll_length]; rfl
theorem l2_len : l2.length = 6 := by unfold l2; rw [putAll_length]; rfl
theorem e0_all : emptyB (List.replicate 6 Ce.zero) = true := (empty_iff _).2 (by rw [List.length_replicate])
theorem e12_no : emptyB l12 = false := first_full 2 (by decide) m1 m2 rfl rfl
theorem s12_z : putC Ce.sub (subL l12 l2) m1 = List.replicate 6 Ce.zero := first_empty 2 (by decide) m1 m2 rfl rfl
theorem h16_12 : Marks16 [m1, m2] := by intro m hm; simp at hm; rcases hm with rfl | rfl <;> rfl
theorem l12_ok : Oks l12 := putAll_ok h16_12 (fun c hc => by rw [List.eq_of_mem_replicate hc]; exact Ce.zero_ok)
set_option maxHeartbeats 8000000 in
theorem first11 (w : World) : Calls Try.prog 33 #[] w fun e w' => e = .returned (.bool true) ∧ Below w.heap.size w w' := by
  go_enter Try.func33, Try.ntmps33
  go_wp2_with fail
  refine (show Calls Try.prog 36 #[.int .i64 6, .slice (some ⟨w.heap.size + 1 + 1, 0, none⟩) 2 2] _ _ from of_start w).mono ?_
  rintro e w1 ⟨ka, va, rfl, hA, h1, h2, hB⟩
  have HA := Lib.hid hA
  have H1 := Lib.hid h1
  have H2 := Lib.hid h2
  have HB := Lib.hid hB
  clear hA h1 h2 hB
  have hL := mark_whole H2.out rfl
  rw [m2_c] at hL
  go_wp2_with (first | (refine wpList_load_at rfl _ _ rfl rfl (hL) ?_))
  clear hL
  refine (show Calls Try.prog 36 #[.int .i64 6, .slice (some ⟨w1.heap.size, 0, none⟩) 1 1] _ _ from of_one w1).mono ?_
  rintro e w2 ⟨kb, vb, rfl, hA2, hB2⟩
  have A2 := Lib.hid (HA.out.below hB2)
  have G1 := Lib.hid ((hB2.block _ (blk_lt H1.out)).trans H1.out)
  have G2 := Lib.hid ((hB2.block _ (blk_lt H2.out)).trans H2.out)
  have GB := Lib.hid (HB.out.trans (hB2.mono HB.out.size))
  have C2 := Lib.hid hA2
  clear hA2 hB2 HA H1 H2 HB
  go_wp2_with fail
  refine (csub_any ka kb va vb l12 l2 w2 A2.out C2.out (by rw [l12_len, l2_len]) (by rw [l12_len]; decide) (by rw [l12_len]; decide)).mono ?_
  rintro e w3 ⟨kc, vc, rfl, hS, hkc, hvc, hB3⟩
  have HS := Lib.hid hS
  have HK := Lib.hid hkc
  have HV := Lib.hid hvc
  have HB3 := Lib.hid hB3
  clear hS hkc hvc hB3
  go_wp2_with fail
  refine (cnew_no 4 (by unfold fitsC; omega) w3).mono ?_
  rintro e w' ⟨rfl, rfl⟩
  have hL := mark_whole ((HB3.out.block _ (blk_lt G1.out)).trans G1.out) rfl
  rw [m1_c] at hL
  go_wp2_with (first | (refine wpList_load_at rfl _ _ rfl rfl (hL) ?_))
  clear hL
  refine (show Calls Try.prog 47 #[ptr kc, .agg (mC 1)] w3 _ from cremove_any kc vc _ m1 w3 HS.out (by rw [subL_length, l12_len]; exact fits6) rfl).mono ?_
  rintro e w4 ⟨⟨u, rfl⟩, hS4, hT⟩
  rw [s12_z] at hS4
  have hB4 : Below w2.heap.size w2 w4 := HB3.out.trans (hT.below (fun j hj => HV.out j hj) HB3.out.size)
  have a4 := A2.out.below hB4
  have g1 := (hB4.block _ (blk_lt G1.out)).trans G1.out
  have g2 := (hB4.block _ (blk_lt G2.out)).trans G2.out
  have B4 := Lib.hid (GB.out.trans (hB4.mono GB.out.size))
  have kE : ∀ X, Below w4.heap.size w4 X → Calls Try.prog 40 #[ptr kc] X fun e w' => e = .returned (.bool true) ∧ Below X.heap.size X w' := by
    intro X hX
    refine (cempty_any kc vc _ X (hS4.below hX) (by simp)).mono ?_
    rintro e w' ⟨rfl, hB⟩
    exact ⟨by rw [e0_all], hB⟩
  have kF : ∀ X, Below w4.heap.size w4 X → Calls Try.prog 40 #[ptr ka] X fun e w' => e = .returned (.bool false) ∧ Below X.heap.size X w' := by
    intro X hX
    refine (cempty_any ka va _ X (a4.below hX) (by rw [l12_len]; decide)).mono ?_
    rintro e w' ⟨rfl, hB⟩
    exact ⟨by rw [e12_no], hB⟩
  have kS : ∀ X, Below w4.heap.size w4 X → Calls Try.prog 39 #[ptr ka] X fun e w' => e = .returned (.int .i64 6) ∧ Below X.heap.size X w' := by
    intro X hX
    refine (csize_any ka va _ X (a4.below hX)).mono ?_
    rintro e w' ⟨rfl, rfl⟩
    exact ⟨by rw [l12_len]; rfl, Below.refl _ _⟩
  have kP : ∀ X, Calls Try.prog 38 #[.int .i64 3, .agg (mC 1)] X fun e w' => e = .returned (.agg #[.int .i64 0, .int .i64 1, .int .i64 2]) ∧ Below X.heap.size X w' := by
    intro X
    refine (show Calls Try.prog 38 #[.int .i64 3, .agg (mC 1)] X _ from cplaces_any 1 ⟨by decide, by decide, by decide⟩ m1 rfl X).mono ?_
    rintro e w' ⟨rfl, hB⟩
    exact ⟨by rw [pl1], hB⟩
  have kC : ∀ X, Below w4.heap.size w4 X → Calls Try.prog 44 #[ptr ka, .int .i64 9] X fun e w' => ∃ vb, e = .returned vb ∧ OwnV 26 18 w' vb (rawC l12) ∧ Below X.heap.size X w' := by
    intro X hX
    refine (lawcells_any ka va l12 9 X (a4.below hX) (by rw [l12_len]; decide)).mono ?_
    rintro e w' ⟨vb, rfl, hO, _, hB⟩
    rw [List.take_of_length_le (by rw [l12_len]; decide)] at hO
    exact ⟨vb, rfl, hO, hB⟩
  have kO : ∀ X v, MarksAt X v [m1, m2] → Calls Try.prog 79 #[.int .i64 6, v] X fun e w' => ∃ vb, e = .returned vb ∧ OwnV 26 18 w' vb (rawC l12) ∧ Below X.heap.size X w' := by
    intro X v hv
    refine (show Calls Try.prog 79 #[.int .i64 6, v] X _ from refsk_any 6 fits6 v [m1, m2] X hv h16_12 (by decide)).mono ?_
    rintro e w' ⟨vb, rfl, hO, _, hB⟩
    exact ⟨vb, rfl, hO, hB⟩
  have kX : ∀ X v v2, OwnV 26 18 X v (rawC l12) → OwnV 26 18 X v2 (rawC l12) → Calls Try.prog 43 #[v, v2] X fun e w' => e = .returned (.bool true) ∧ Below X.heap.size X w' := by
    intro X v v2 hv hv2
    refine (refsame_any v v2 l12 l12 X (cellsAt_iff.2 hv.at) (cellsAt_iff.2 hv2.at) l12_ok l12_ok (by rw [l12_len]; decide) (by rw [l12_len]; decide)).mono ?_
    rintro e w' ⟨rfl, hB⟩
    exact ⟨by rw [sameB_self], hB⟩
  have kT : ∀ X, Calls Try.prog 37 #[.int .i64 1536] X fun e w' => e = .returned (.bool true) ∧ Below X.heap.size X w' := by
    intro X
    refine (cfits_yes 1536 ⟨by decide, by decide, by decide⟩ X).mono ?_
    rintro e w' ⟨rfl, rfl⟩
    exact ⟨rfl, Below.refl _ _⟩
  have L1 : ∀ X, Below w4.heap.size w4 X → (Instr.loadAt 23 (.pointer (some ⟨w.heap.size, 0, none⟩))).run Try.prog X = .ok (.agg (mC 1)) X := fun X hX => mark_whole ((hX.block _ (blk_lt g1)).trans g1) rfl
  have L2 : ∀ X, Below w4.heap.size w4 X → (Instr.loadAt 23 (.pointer (some ⟨w.heap.size + 1, 0, none⟩))).run Try.prog X = .ok (.agg (mC 2)) X := fun X hX => mark_whole ((hX.block _ (blk_lt g2)).trans g2) rfl
  have KE := Lib.hid kE
  have KF := Lib.hid kF
  have KS := Lib.hid kS
  have KP := Lib.hid kP
  have KC := Lib.hid kC
  have KO := Lib.hid kO
  have KX := Lib.hid kX
  have KT := Lib.hid kT
  have LA := Lib.hid L1
  have LB := Lib.hid L2
  clear kE kF kS kP kC kO kX kT L1 L2 g1 g2 a4 hS4 hB4 hT A2 C2 G1 G2 GB HS HK HV HB3
  go_wp2_with fail
  refine wp_region_grow [[], [0], [1], [2], [2, 3], [2, 4], [5], [6], [6, 7], [6, 8], [9], [10], [10, 11], [10, 12], [13], [14], [14, 15], [14, 16], [17], [18], [18, 19], [18, 20], [18, 21], [22], [23], [23, 24], [23, 25], [23, 26], [27], [28], [28, 29], [28], [28, 30, 31], [28, 32], [33], [34], [34, 35], [34], [34], [34, 37, 38], [34, 39], [34, 36, 40], [34, 41], [42], [43], [43, 44], [45]] (by kernel_rfl) (by kernel_rfl) (by kernel_rfl) (Nat.zero_lt_succ _) ?_
  iterate 36
    (apply steps_fx
     · intro vs X hC hB hA
       try simp only [List.cons_append, List.nil_append, List.getD_cons_zero, List.getD_cons_succ, List.forall_mem_cons, List.not_mem_nil, false_implies, implies_true, and_true] at hA
       simp only [List.getD_cons_zero, List.getD_cons_succ, putL, dstOf, List.foldl_nil, List.foldl_cons, List.getElem?_toArray, List.getElem?_cons_zero, List.getElem?_cons_succ, Option.bind_some, Act.put, List.setIfInBounds_toArray, List.set_cons_zero, List.set_cons_succ]
       try simp only [hA]
       go_wp2_with (first | (refine wpList_load_w rfl rfl (LA.out X hC) (by first | rfl | (go_simp; done)) ?_) | (refine wpList_bin_w rfl rfl rfl (eqv_three 0 1 2 _ _ X) (by first | rfl | (go_simp; done)) ?_))
       first
       | exact ⟨_, rfl, Below.refl _ _, rfl⟩
       | ((with_reducible refine (KE.out X hC).mono ?_); rintro e w' ⟨rfl, hB⟩; go_wp2_with fail; exact ⟨_, rfl, hB, rfl⟩)
       | ((with_reducible refine (KF.out X hC).mono ?_); rintro e w' ⟨rfl, hB⟩; go_wp2_with fail; exact ⟨_, rfl, hB, rfl⟩)
       | ((with_reducible refine (KS.out X hC).mono ?_); rintro e w' ⟨rfl, hB⟩; go_wp2_with fail; exact ⟨_, rfl, hB, rfl⟩)
       | ((with_reducible refine (KP.out X).mono ?_); rintro e w' ⟨rfl, hB⟩; go_wp2_with fail; exact ⟨_, rfl, hB, rfl⟩)
     simp only [List.cons_append, List.nil_append])
  refine steps_pr ((fun v X => OwnV 26 18 X v (rawC l12))) (by intro j v X Y _ _ _ _ _ hG h; exact h.below hG) ?_ ?_
  · intro vs X hC hB hA
    try simp only [List.cons_append, List.nil_append, List.getD_cons_zero, List.getD_cons_succ, List.forall_mem_cons, List.not_mem_nil, false_implies, implies_true, and_true] at hA
    simp only [List.getD_cons_zero, List.getD_cons_succ, putL, dstOf, List.foldl_nil, List.foldl_cons, List.getElem?_toArray, List.getElem?_cons_zero, List.getElem?_cons_succ, Option.bind_some, Act.put, List.setIfInBounds_toArray, List.set_cons_zero, List.set_cons_succ]
    try simp only [hA]
    go_wp2_with fail
    refine (KC.out X hC).mono ?_
    rintro e w' ⟨vb, rfl, hO, hB⟩
    go_wp2_with fail
    exact ⟨_, rfl, hB, hO⟩
  simp only [List.cons_append, List.nil_append]
  iterate 2
    (apply steps_fx
     · intro vs X hC hB hA
       try simp only [List.cons_append, List.nil_append, List.getD_cons_zero, List.getD_cons_succ, List.forall_mem_cons, List.not_mem_nil, false_implies, implies_true, and_true] at hA
       simp only [List.getD_cons_zero, List.getD_cons_succ, putL, dstOf, List.foldl_nil, List.foldl_cons, List.getElem?_toArray, List.getElem?_cons_zero, List.getElem?_cons_succ, Option.bind_some, Act.put, List.setIfInBounds_toArray, List.set_cons_zero, List.set_cons_succ]
       try simp only [hA]
       go_wp2_with (first | (refine wpList_load_w rfl rfl (LA.out X hC) (by first | rfl | (go_simp; done)) ?_) | (refine wpList_load_w rfl rfl (LB.out X hC) (by first | rfl | (go_simp; done)) ?_))
       first
       | exact ⟨_, rfl, Below.refl _ _, rfl⟩
     simp only [List.cons_append, List.nil_append])
  refine steps_pr ((fun v X => MarksAt X v [m1, m2])) (by intro j v X Y _ _ _ _ _ hG h; exact h.below hG) ?_ ?_
  · intro vs X hC hB hA
    try simp only [List.cons_append, List.nil_append, List.getD_cons_zero, List.getD_cons_succ, List.forall_mem_cons, List.not_mem_nil, false_implies, implies_true, and_true] at hA
    simp only [List.getD_cons_zero, List.getD_cons_succ, putL, dstOf, List.foldl_nil, List.foldl_cons, List.getElem?_toArray, List.getElem?_cons_zero, List.getElem?_cons_succ, Option.bind_some, Act.put, List.setIfInBounds_toArray, List.set_cons_zero, List.set_cons_succ]
    try simp only [hA]
    go_wp2_with fail
    exact ⟨_, rfl, (Below.refl _ _).alloc (Nat.le_refl _) _, marks2_at m1 m2 rfl rfl X⟩
  simp only [List.cons_append, List.nil_append]
  refine steps_pr ((fun v X => OwnV 26 18 X v (rawC l12))) (by intro j v X Y _ _ _ _ _ hG h; exact h.below hG) ?_ ?_
  · intro vs X hC hB hA
    try simp only [List.cons_append, List.nil_append, List.getD_cons_zero, List.getD_cons_succ, List.forall_mem_cons, List.not_mem_nil, false_implies, implies_true, and_true] at hA
    simp only [List.getD_cons_zero, List.getD_cons_succ, putL, dstOf, List.foldl_nil, List.foldl_cons, List.getElem?_toArray, List.getElem?_cons_zero, List.getElem?_cons_succ, Option.bind_some, Act.put, List.setIfInBounds_toArray, List.set_cons_zero, List.set_cons_succ]
    try simp only [hA]
    go_wp2_with fail
    refine (KO.out X _ hA.2).mono ?_
    rintro e w' ⟨vb, rfl, hO, hB⟩
    go_wp2_with fail
    exact ⟨_, rfl, hB, hO⟩
  simp only [List.cons_append, List.nil_append]
  repeat
    (apply steps_fx
     · intro vs X hC hB hA
       try simp only [List.cons_append, List.nil_append, List.getD_cons_zero, List.getD_cons_succ, List.forall_mem_cons, List.not_mem_nil, false_implies, implies_true, and_true] at hA
       simp only [List.getD_cons_zero, List.getD_cons_succ, putL, dstOf, List.foldl_nil, List.foldl_cons, List.getElem?_toArray, List.getElem?_cons_zero, List.getElem?_cons_succ, Option.bind_some, Act.put, List.setIfInBounds_toArray, List.set_cons_zero, List.set_cons_succ]
       try simp only [hA]
       go_wp2_with fail
       first
       | exact ⟨_, rfl, Below.refl _ _, rfl⟩
       | ((with_reducible refine (KX.out X _ _ hA.2.1 hA.2.2).mono ?_); rintro e w' ⟨rfl, hB⟩; go_wp2_with fail; exact ⟨_, rfl, hB, rfl⟩)
       | ((with_reducible refine (KT.out X).mono ?_); rintro e w' ⟨rfl, hB⟩; go_wp2_with fail; exact ⟨_, rfl, hB, rfl⟩)
     simp only [List.cons_append, List.nil_append])
  refine steps_nil ?_
  intro vs X hC hA
  rw [(fun (l : List Oper) (h : l.length = 47) => (by rw [h]; rfl : List.range l.length = [0, 1, 2, 3, 4, 5, 6, 7, 8, 9, 10, 11, 12, 13, 14, 15, 16, 17, 18, 19, 20, 21, 22, 23, 24, 25, 26, 27, 28, 29, 30, 31, 32, 33, 34, 35, 36, 37, 38, 39, 40, 41, 42, 43, 44, 45, 46])) _ rfl]
  simp only [List.getD_cons_zero, List.getD_cons_succ, putL, dstOf, List.foldl_nil, List.foldl_cons, List.getElem?_toArray, List.getElem?_cons_zero, List.getElem?_cons_succ, Option.bind_some, Act.put, List.setIfInBounds_toArray, List.set_cons_zero, List.set_cons_succ]
  have e46 : vs 46 = .bool true := hA 46 (by decide)
  rw [e46]
  clear hA e46
  have hB := B4.out.trans (hC.mono B4.out.size)
  go_wp2_with fail
  go_ret
  exact ⟨rfl, hB⟩
end Go.Proofs.Ytkdbbdlkfpjdfaa
