/- The document's answers of law 10.
   Conditions: those that each theorem names. -/
import Derived.Test.YtkdbbdlkfpjdfaaRef9
import Derived.Test.YtkdbbdlkfpjdfaaBs
import Derived.Test.YtkdbbdlkfpjdfaaCelE
import Derived.Test.YtkdbbdlkfpjdfaaCelL
import Derived.Test.YtkdbbdlkfpjdfaaSq
namespace Go.Proofs.Ytkdbbdlkfpjdfaa
set_option maxRecDepth 100000
set_option linter.unusedVariables false
set_option linter.unusedSimpArgs false
open Go.RowKit Go.Rg
attribute [local go_sem] Rg.q_add Rg.q_add' Rg.q_xor Rg.q_or Rg.q_and markV cellV
set_option maxHeartbeats 1000000 in
theorem refcheck_any (m : List UInt8) (hm : m.length = 16) (w : World) : Calls Try.prog 15 #[markV m] w fun e w' => e = .returned (.int .u64 (U (check m))) ∧ Below w.heap.size w w' := by
  unfold markV
  go_enter Try.func15, Try.ntmps15
  go_wp2_with fail
  have hb : (w.alloc (.cells (m.map byteV).toArray 23)).heap[w.heap.size]? = some (.cells (m.map byteV).toArray 23 (0, 0)) := World.alloc_heap_new _ _
  have hB : Below w.heap.size w (w.alloc (.cells (m.map byteV).toArray 23)) := (Below.refl _ _).alloc (Nat.le_refl _) _
  generalize w.alloc (.cells (m.map byteV).toArray 23) = w1 at *
  have hcv : ∀ X, Below w1.heap.size w1 X → (convert 41 9 (.slice (some ⟨w.heap.size, 0, none⟩) 16 16)).run Try.prog X = .ok (str m) X := fun X hX => by
    have hby := mark_bytes (o := 0) ((hX.block _ (blk_lt hb)).trans hb) (m := m) (fun j hj => by rw [Nat.zero_add, List.getElem?_map, List.getElem?_eq_getElem hj]; rfl) 16
    rw [hm] at hby
    exact conv_bytes hby
  have r1 := fun X => plain_seed_any 3 X
  have r2 := fun X => plain_hash_any (sA 3) (sB 3) m X (by omega)
  rw [← hash_eq] at r2
  have R1 := Lib.hid r1
  have R2 := Lib.hid r2
  have HB := Lib.hid hB
  clear hB hb hm r1 r2
  refine wp_region_calm_lit (by kernel_rfl) (by kernel_rfl) ?_
  repeat
    first
    | (apply calm_want
       · first | rfl | (go_simp; done)
       · intro X hX
         go_simp
         first
           | done
           | rfl
           | (refine ⟨trivial, ?_⟩; (first | exact calls_calm hX (R1.out X) | exact calls_calm hX (R2.out X)); done)
           | ((first | exact calls_calm hX (R1.out X) | exact calls_calm hX (R2.out X)); done)
       intro K hK
       go_simp
       refine hK _ ?_
       clear hK K)
    | (apply calm_skip
       · first | rfl | (go_simp; done)
       intro K hK
       go_simp
       refine hK _ ?_
       clear hK K)
  refine wpQuiet_nil ?_
  intro X hX
  have hBw := HB.out.trans (hX.mono HB.out.size)
  clear hcv
  go_wp2_with fail
  go_ret
  exact ⟨rfl, hBw⟩
set_option maxHeartbeats 1000000 in
theorem refof_any (m : List UInt8) (hm : m.length = 16) (w : World) : Calls Try.prog 17 #[markV m] w fun e w' => e = .returned (cellV (Ce.of m)) ∧ Below w.heap.size w w' := by
  unfold markV
  go_enter Try.func17, Try.ntmps17
  go_wp2_with fail
  have hb : ((w.alloc (.cells (m.map byteV).toArray 23)).alloc (.cells zeroCells 26)).heap[w.heap.size]? = some (.cells (m.map byteV).toArray 23 (0, 0)) := (Below.heap_alloc _ _ _ (by simp)).trans (World.alloc_heap_new _ _)
  have hc : CellAt (w.heap.size + 1) 26 Ce.zero ((w.alloc (.cells (m.map byteV).toArray 23)).alloc (.cells zeroCells 26)) := by
    have := zero_at (w := w.alloc (.cells (m.map byteV).toArray 23)) (T := 26)
    simpa using this
  have hB : Below w.heap.size w ((w.alloc (.cells (m.map byteV).toArray 23)).alloc (.cells zeroCells 26)) := ((Below.refl _ _).alloc (Nat.le_refl _) _).alloc (by simp) _
  generalize (w.alloc (.cells (m.map byteV).toArray 23)).alloc (.cells zeroCells 26) = w1 at *
  have hl : ∀ X, Below w1.heap.size w1 X → (Instr.loadAt 23 (.pointer (some ⟨w.heap.size, 0, none⟩))).run Try.prog X = .ok (.agg (m.map byteV).toArray) X := fun X hX => mark_whole ((hX.block _ (blk_lt hb)).trans hb) hm
  have hbc := build_cell (Ce.of m) hm
  dsimp only [Ce.of, markV] at hbc
  have HC := Lib.hid hc
  have HB := Lib.hid hB
  have HM := Lib.hid hm
  clear hc hB hb hm
  refine wp_region_calm_tail 4 (by kernel_rfl) (by kernel_rfl) ?_
  simp only [List.take_succ_cons, List.take_zero, List.drop_succ_cons, List.drop_zero]
  repeat
    first
    | (apply calm_want
       · first | rfl | (go_simp; done)
       · intro X hX
         first
         | exact calm_load rfl rfl (hl X hX) hX
         | exact calm_build rfl (by go_simp) (hbc X) hX
         | (go_simp
            first
              | done
              | rfl
              | (refine ⟨trivial, ?_⟩; (exact calls_calm hX (refcheck_any m HM.out X)); done)
              | ((exact calls_calm hX (refcheck_any m HM.out X)); done))
       intro K hK
       go_simp
       refine hK _ ?_
       clear hK K)
    | (apply calm_skip
       · first | rfl | (go_simp; done)
       intro K hK
       go_simp
       refine hK _ ?_
       clear hK K)
  refine wpQuiet_nil ?_
  intro X hX
  obtain ⟨hs1, hs2⟩ := (CellAt.below HC.out hX (blk_lt HC.out)).store (c := Ce.of m) (by simp [Ce.zero]) HM.out
  have hB := Below.setCells (HB.out.trans (hX.mono HB.out.size)) (w.heap.size + 1) 0 (Ce.of m).vals (by omega)
  go_wp2_with (first | (refine wpList_store_at rfl _ _ _ rfl rfl rfl (hs1) ?_))
  exact bodyPost_ret (v := cellV (Ce.of m)) (hs2.ret HM.out rfl rfl) rfl ⟨rfl, hB⟩
theorem mk_marks2 (a b : List UInt8) (ha : a.length = 16) (hb : b.length = 16) (w : World) : (Instr.buildSlice 28 2 #[(0, markV a), (1, markV b)]).run Try.prog w = .ok (.slice (some ⟨w.heap.size, 0, none⟩) 2 2) (w.alloc (.cells (a.map byteV ++ b.map byteV).toArray 23)) := by
  obtain ⟨a0, a1, a2, a3, a4, a5, a6, a7, a8, a9, b0, b1, b2, b3, b4, b5, rfl⟩ := list16 ha
  obtain ⟨c0, c1, c2, c3, c4, c5, c6, c7, c8, c9, d0, d1, d2, d3, d4, d5, rfl⟩ := list16 hb
  kernel_rfl
theorem marks2_at (a b : List UInt8) (ha : a.length = 16) (hb : b.length = 16) (w : World) : MarksAt (w.alloc (.cells (a.map byteV ++ b.map byteV).toArray 23)) (.slice (some ⟨w.heap.size, 0, none⟩) 2 2) [a, b] := by
  have hbk : (w.alloc (.cells (a.map byteV ++ b.map byteV).toArray 23)).heap[w.heap.size]? = some (.cells (a.map byteV ++ b.map byteV).toArray 23 (0, 0)) := World.alloc_heap_new _ _
  refine ⟨_, 2, rfl, Nat.le_refl _, fun i m hi => ⟨w.heap.size, 0, rfl, blk_lt hbk, blk_range hbk _ _ (fun j v hv => ?_)⟩⟩
  have hj : j < (m.map byteV).length := (List.getElem?_eq_some_iff.1 hv).1
  rw [List.length_map] at hj
  match i, hi with
  | 0, hi =>
    cases hi
    rw [List.getElem?_append_left (by rw [List.length_map]; omega), show 0 + 0 * 16 + j = j by omega, hv]
  | 1, hi =>
    cases hi
    rw [List.getElem?_append_right (by rw [List.length_map]; omega), List.length_map, ha, show 0 + 1 * 16 + j - 16 = j by omega, hv]
def Ce.radd (a b : Ce) (s : Int) : Ce := ⟨IntKind.i64.wrap (a.n + IntKind.i64.wrap (s * b.n)), xorL a.m b.m, a.h ^^^ b.h⟩
theorem Ce.radd_one (a b : Ce) : a.radd b 1 = a.add b := by
  unfold Ce.radd Ce.add
  have : IntKind.i64.wrap (a.n + IntKind.i64.wrap (1 * b.n)) = IntKind.i64.wrap (a.n + b.n) := by
    rw [IntKind.wrap_i64, IntKind.wrap_i64, IntKind.wrap_i64]; omega
  rw [this]
theorem Ce.radd_neg (a b : Ce) : a.radd b (-1) = a.sub b := by
  unfold Ce.radd Ce.sub
  have : IntKind.i64.wrap (a.n + IntKind.i64.wrap (-1 * b.n)) = IntKind.i64.wrap (a.n - b.n) := by
    rw [IntKind.wrap_i64, IntKind.wrap_i64, IntKind.wrap_i64]; omega
  rw [this]
theorem Ce.radd_ok {a b : Ce} (ha : a.ok) (hb : b.ok) (s : Int) : (a.radd b s).ok := ⟨(xorL_length (ha.m.trans hb.m.symm)).trans ha.m, (wrap_rng _).1, (wrap_rng _).2⟩
theorem foldM_two (a b : List UInt8) (ha : a.length = 16) : foldM [a, b] = xorL a b := by
  show xorL (xorL (List.replicate 16 0) a) b = _
  rw [xorZ a ha]
set_option maxHeartbeats 2000000 in
theorem refadd_any (a b : Ce) (s : Int) (ha : a.ok) (hb : b.ok) (w : World) : Calls Try.prog 13 #[cellV a, cellV b, .int .i64 s] w fun e w' => e = .returned (cellV (a.radd b s)) ∧ Below w.heap.size w w' := by
  unfold cellV
  go_enter Try.func13, Try.ntmps13
  go_wp2_with fail
  obtain ⟨w1, hw1⟩ : ∃ w1, w1 = ((w.alloc (.cells a.vals.toArray 26)).alloc (.cells b.vals.toArray 26)).alloc (.cells zeroCells 26) := ⟨_, rfl⟩
  rw [← hw1]
  have h0 : CellAt w.heap.size 26 a w1 := by
    rw [hw1]
    exact ((Below.heap_alloc _ _ _ (by simp; omega)).trans (Below.heap_alloc _ _ _ (by simp))).trans (World.alloc_heap_new _ _)
  have h1 : CellAt (w.heap.size + 1) 26 b w1 := by
    rw [hw1]
    refine (Below.heap_alloc _ _ _ (by simp)).trans ?_
    rw [show w.heap.size + 1 = (w.alloc (.cells a.vals.toArray 26)).heap.size by simp]
    exact World.alloc_heap_new _ _
  have h2 : CellAt (w.heap.size + 2) 26 Ce.zero w1 := by
    rw [hw1, show w.heap.size + 2 = ((w.alloc (.cells a.vals.toArray 26)).alloc (.cells b.vals.toArray 26)).heap.size by simp]
    exact World.alloc_heap_new _ _
  have hB : Below w.heap.size w w1 := by
    rw [hw1]
    exact (((Below.refl _ _).alloc (Nat.le_refl _) _).alloc (by simp) _).alloc (by simp; omega) _
  clear hw1
  have rok := Ce.radd_ok ha hb s
  have na := fun X (hX : Below w1.heap.size w1 X) => (h0.below hX (blk_lt h0)).n
  have nb := fun X (hX : Below w1.heap.size w1 X) => (h1.below hX (blk_lt h1)).n
  have ma := fun X (hX : Below w1.heap.size w1 X) => (h0.below hX (blk_lt h0)).mark ha.m
  have mb := fun X (hX : Below w1.heap.size w1 X) => (h1.below hX (blk_lt h1)).mark hb.m
  have ka := fun X (hX : Below w1.heap.size w1 X) => (h0.below hX (blk_lt h0)).h ha.m
  have kb := fun X (hX : Below w1.heap.size w1 X) => (h1.below hX (blk_lt h1)).h hb.m
  have mk := fun X => mk_marks2 a.m b.m ha.m hb.m X
  have mt := fun X => marks2_at a.m b.m ha.m hb.m X
  have hf := fun X v (h : MarksAt X v [a.m, b.m]) => fold_any v [a.m, b.m] X h (fun m hm => by simp at hm; rcases hm with rfl | rfl; exact ha.m; exact hb.m) (by simp)
  rw [foldM_two a.m b.m ha.m] at hf
  have bc := build_cell (a.radd b s) rok.m
  have ew : ∀ x, IntKind.i64.wrap x = wrap64 x := fun x => IntWalk.i64_left x
  dsimp only [Ce.radd, markV] at bc
  simp only [ew] at bc
  unfold markV at mk hf
  have NA := Lib.hid na
  have NB := Lib.hid nb
  have MA := Lib.hid ma
  have MB := Lib.hid mb
  have KA := Lib.hid ka
  have KB := Lib.hid kb
  have MK := Lib.hid mk
  have MT := Lib.hid mt
  have HF := Lib.hid hf
  have BC := Lib.hid bc
  have H2 := Lib.hid h2
  have HB := Lib.hid hB
  clear ew na nb ma mb ka kb mk mt hf bc h0 h1 h2 hB
  refine wp_region_grow_tail 19 [[], [0], [], [], [3], [2, 4], [1, 5], [], [7], [], [9], [8, 10], [11], [], [13], [], [15], [14, 16], [6, 12, 17], [18]] (by kernel_rfl) (by kernel_rfl) (by kernel_rfl) (by decide) (by kernel_rfl) ?_
  simp only [List.take_succ_cons, List.take_zero]
  iterate 11
    (apply steps_fx
     · intro vs X hC hB hA
       try simp only [List.cons_append, List.nil_append, List.getD_cons_zero, List.getD_cons_succ, List.forall_mem_cons, List.not_mem_nil, false_implies, implies_true, and_true] at hA
       simp only [List.getD_cons_zero, List.getD_cons_succ, putL, dstOf, List.foldl_nil, List.foldl_cons, List.getElem?_toArray, List.getElem?_cons_zero, List.getElem?_cons_succ, Option.bind_some, Act.put, List.setIfInBounds_toArray, List.set_cons_zero, List.set_cons_succ]
       try simp only [hA]
       have ad0 := NA.out X hC
       have ad1 := NB.out X hC
       go_wp2_with (first | (refine wpList_load_w rfl rfl (MA.out X hC) (by first | rfl | (go_simp; done)) ?_) | (refine wpList_load_w rfl rfl (MB.out X hC) (by first | rfl | (go_simp; done)) ?_))
       first
       | exact ⟨_, rfl, Below.refl _ _, rfl⟩
     simp only [List.cons_append, List.nil_append])
  refine steps_pr ((fun v X => MarksAt X v [a.m, b.m])) (by intro j v X Y _ _ _ _ _ hG h; exact h.below hG) ?_ ?_
  · intro vs X hC hB hA
    try simp only [List.cons_append, List.nil_append, List.getD_cons_zero, List.getD_cons_succ, List.forall_mem_cons, List.not_mem_nil, false_implies, implies_true, and_true] at hA
    simp only [List.getD_cons_zero, List.getD_cons_succ, putL, dstOf, List.foldl_nil, List.foldl_cons, List.getElem?_toArray, List.getElem?_cons_zero, List.getElem?_cons_succ, Option.bind_some, Act.put, List.setIfInBounds_toArray, List.set_cons_zero, List.set_cons_succ]
    try simp only [hA]
    go_wp2_with (first | (refine wpList_mk_w rfl (by go_simp) (MK.out X) (by first | rfl | (go_simp; done)) ?_))
    exact ⟨_, rfl, (Below.refl _ _).alloc (Nat.le_refl _) _, MT.out X⟩
  simp only [List.cons_append, List.nil_append]
  iterate 1
    (apply steps_fx
     · intro vs X hC hB hA
       try simp only [List.cons_append, List.nil_append, List.getD_cons_zero, List.getD_cons_succ, List.forall_mem_cons, List.not_mem_nil, false_implies, implies_true, and_true] at hA
       simp only [List.getD_cons_zero, List.getD_cons_succ, putL, dstOf, List.foldl_nil, List.foldl_cons, List.getElem?_toArray, List.getElem?_cons_zero, List.getElem?_cons_succ, Option.bind_some, Act.put, List.setIfInBounds_toArray, List.set_cons_zero, List.set_cons_succ]
       try simp only [hA]
       go_wp2_with fail
       first
       | exact ⟨_, rfl, Below.refl _ _, rfl⟩
       | ((with_reducible refine (HF.out X _ hA).mono ?_); rintro e w' ⟨rfl, hB⟩; go_wp2_with fail; exact ⟨_, rfl, hB, rfl⟩)
     simp only [List.cons_append, List.nil_append])
  iterate 6
    (apply steps_fx
     · intro vs X hC hB hA
       try simp only [List.cons_append, List.nil_append, List.getD_cons_zero, List.getD_cons_succ, List.forall_mem_cons, List.not_mem_nil, false_implies, implies_true, and_true] at hA
       simp only [List.getD_cons_zero, List.getD_cons_succ, putL, dstOf, List.foldl_nil, List.foldl_cons, List.getElem?_toArray, List.getElem?_cons_zero, List.getElem?_cons_succ, Option.bind_some, Act.put, List.setIfInBounds_toArray, List.set_cons_zero, List.set_cons_succ]
       try simp only [hA]
       have ad0 := KA.out X hC
       have ad1 := KB.out X hC
       go_wp2_with (first | (refine wpList_build_w rfl (by go_simp) (BC.out X) (by first | rfl | (go_simp; done)) ?_))
       first
       | exact ⟨_, rfl, Below.refl _ _, rfl⟩
     simp only [List.cons_append, List.nil_append])
  refine steps_nil ?_
  intro vs X hC hA
  simp only [List.drop_succ_cons, List.drop_zero]
  rw [show List.range 19 = [0, 1, 2, 3, 4, 5, 6, 7, 8, 9, 10, 11, 12, 13, 14, 15, 16, 17, 18] from rfl]
  simp only [List.getD_cons_zero, List.getD_cons_succ, putL, dstOf, List.foldl_nil, List.foldl_cons, List.getElem?_toArray, List.getElem?_cons_zero, List.getElem?_cons_succ, Option.bind_some, Act.put, List.setIfInBounds_toArray, List.set_cons_zero, List.set_cons_succ]
  have e18 : vs 18 = .agg (a.radd b s).vals.toArray := (hA 18 (by decide)).trans (by simp only [Ce.radd, IntWalk.i64_left])
  rw [e18]
  clear hA e18
  obtain ⟨hs1, hs2⟩ := (CellAt.below H2.out hC (blk_lt H2.out)).store (c := a.radd b s) (by simp [Ce.zero]) rok.m
  have hB := Below.setCells (HB.out.trans (hC.mono HB.out.size)) (w.heap.size + 2) 0 (a.radd b s).vals (by omega)
  go_wp2_with (first | (refine wpList_store_at rfl _ _ _ rfl rfl rfl (hs1) ?_))
  exact bodyPost_ret (v := cellV (a.radd b s)) (hs2.ret rok.m rfl rfl) rfl ⟨rfl, hB⟩
set_option maxHeartbeats 1000000 in
theorem refpure_any (c : Ce) (hc : c.ok) (w : World) : Calls Try.prog 22 #[cellV c] w fun e w' => e = .returned (.int .i64 c.pure) ∧ Below w.heap.size w w' := by
  unfold cellV
  go_enter Try.func22, Try.ntmps22
  have h0 : CellAt w.heap.size 26 c (w.alloc (.cells c.vals.toArray 26)) := World.alloc_heap_new _ _
  have hB : Below w.heap.size w (w.alloc (.cells c.vals.toArray 26)) := (Below.refl _ _).alloc (Nat.le_refl _) _
  go_wp2_with fail
  generalize w.alloc (.cells c.vals.toArray 26) = w1 at *
  have l0 := fun X (hX : Below w1.heap.size w1 X) => (h0.below hX (blk_lt h0)).n
  have l2 := fun X (hX : Below w1.heap.size w1 X) => (h0.below hX (blk_lt h0)).h hc.m
  have l4 := fun X (hX : Below w1.heap.size w1 X) => (h0.below hX (blk_lt h0)).mark hc.m
  have HC := Lib.hid hc
  have HB := Lib.hid hB
  have H0 := Lib.hid h0
  clear hc hB h0
  obtain ⟨q, hq⟩ : ∃ q, (c.h == check c.m) = q := ⟨_, rfl⟩
  have hu : (U c.h != U (check c.m)) = !q := by rw [bne, U_inj, hq]
  have hp : c.pure = if (c.n = 1 ∨ c.n = -1) ∧ q = true then c.n else 0 := by
    unfold Ce.pure
    rw [← hq]; simp
  have HP := Lib.hid hp
  clear hp hq
  by_cases e1 : c.n = 1
  · have b1 : (c.n != 1) = false := by simp [e1]
    have HE := Lib.hid e1
    clear e1
    refine wp_region_calm_lit (by kernel_rfl) (by kernel_rfl) ?_
    repeat
      first
      | (apply calm_want
         · first | rfl | (go_simp; done)
         · intro X hX
           first
           | exact calm_load rfl rfl (l4 X hX) hX
           | (go_simp
              first
                | done
                | rfl
                | (refine ⟨trivial, ?_⟩; (exact calls_calm hX (refcheck_any c.m HC.out.m X)); done)
                | ((exact calls_calm hX (refcheck_any c.m HC.out.m X)); done))
         intro K hK
         go_simp
         refine hK _ ?_
         clear hK K)
      | (apply calm_skip
         · first | rfl | (go_simp; done)
         intro K hK
         go_simp
         refine hK _ ?_
         clear hK K)
    refine wpQuiet_nil ?_
    intro X hX
    have hBw := HB.out.trans (hX.mono HB.out.size)
    have c0 := l0 X hX
    clear l0 l2 l4
    cases q
    · go_wp2_with fail
      go_ret
      exact ⟨by rw [HP.out]; simp, hBw⟩
    · go_wp2_with fail
      go_ret
      exact ⟨by rw [HP.out]; simp [HE.out], hBw⟩
  · have b1 : (c.n != 1) = true := by simp [e1]
    by_cases e2 : c.n = -1
    · have b2 : (c.n != -1) = false := by simp [e2]
      have HE := Lib.hid e2
      clear e1 e2
      refine wp_region_calm_lit (by kernel_rfl) (by kernel_rfl) ?_
      repeat
        first
        | (apply calm_want
           · first | rfl | (go_simp; done)
           · intro X hX
             first
             | exact calm_load rfl rfl (l4 X hX) hX
             | (go_simp
                first
                  | done
                  | rfl
                  | (refine ⟨trivial, ?_⟩; (exact calls_calm hX (refcheck_any c.m HC.out.m X)); done)
                  | ((exact calls_calm hX (refcheck_any c.m HC.out.m X)); done))
           intro K hK
           go_simp
           refine hK _ ?_
           clear hK K)
        | (apply calm_skip
           · first | rfl | (go_simp; done)
           intro K hK
           go_simp
           refine hK _ ?_
           clear hK K)
      refine wpQuiet_nil ?_
      intro X hX
      have hBw := HB.out.trans (hX.mono HB.out.size)
      have c0 := l0 X hX
      clear l0 l2 l4
      cases q
      · go_wp2_with fail
        go_ret
        exact ⟨by rw [HP.out]; simp, hBw⟩
      · go_wp2_with fail
        go_ret
        exact ⟨by rw [HP.out]; simp [HE.out], hBw⟩
    · have b2 : (c.n != -1) = true := by simp [e2]
      have HE := Lib.hid e1
      have HE2 := Lib.hid e2
      clear e1 e2
      refine wp_region_calm_lit (by kernel_rfl) (by kernel_rfl) ?_
      repeat
        first
        | (apply calm_want
           · first | rfl | (go_simp; done)
           · intro X hX
             go_simp
             first
               | done
               | rfl
               | (refine ⟨trivial, ?_⟩; (fail); done)
               | ((fail); done)
           intro K hK
           go_simp
           refine hK _ ?_
           clear hK K)
        | (apply calm_skip
           · first | rfl | (go_simp; done)
           intro K hK
           go_simp
           refine hK _ ?_
           clear hK K)
      refine wpQuiet_nil ?_
      intro X hX
      have hBw := HB.out.trans (hX.mono HB.out.size)
      clear l0 l2 l4
      go_wp2_with fail
      go_ret
      exact ⟨by rw [HP.out]; simp [HE.out, HE2.out], hBw⟩
theorem refright_any (c : Ce) (hc : c.ok) (w : World) : Calls Try.prog 24 #[cellV c] w fun e w' => e = .returned (.bool (decide (-1048576 ≤ c.n ∧ c.n ≤ 1048576))) ∧ Below w.heap.size w w' := by
  unfold cellV
  go_enter Try.func24, Try.ntmps24
  have h0 : CellAt w.heap.size 26 c (w.alloc (.cells c.vals.toArray 26)) := World.alloc_heap_new _ _
  have c0 := h0.n
  have hB : Below w.heap.size w (w.alloc (.cells c.vals.toArray 26)) := (Below.refl _ _).alloc (Nat.le_refl _) _
  by_cases e1 : -1048576 ≤ c.n <;> by_cases e2 : c.n ≤ 1048576
  rotate_right
  · omega
  all_goals
    go_wp2_with fail
    refine bodyPost_ret (results_tmp rfl _ _ _) rfl ?_
    refine ⟨?_, hB⟩
    simp
    omega
end Go.Proofs.Ytkdbbdlkfpjdfaa
