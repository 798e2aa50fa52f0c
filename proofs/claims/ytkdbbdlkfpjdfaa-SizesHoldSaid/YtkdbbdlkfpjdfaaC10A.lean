/- What law 10 asks first.
   Conditions: none. -/
import Derived.Test.YtkdbbdlkfpjdfaaCelE
import Derived.Test.YtkdbbdlkfpjdfaaCelP
import Derived.Test.YtkdbbdlkfpjdfaaCelR
import Derived.Test.YtkdbbdlkfpjdfaaBs
namespace Go.Proofs.Ytkdbbdlkfpjdfaa
set_option maxRecDepth 100000
set_option linter.unusedVariables false
set_option linter.unusedSimpArgs false
open Go.RowKit Go.Rg
attribute [local go_sem] Rg.q_add Rg.q_add' Rg.q_xor Rg.q_or Rg.q_and markV cellV
def m1 : List UInt8 := [1, 0, 0, 0, 0, 0, 0, 0, 0, 0, 0, 0, 0, 0, 0, 0]
def m2 : List UInt8 := [2, 0, 0, 0, 0, 0, 0, 0, 0, 0, 0, 0, 0, 0, 0, 0]
def m3 : List UInt8 := [3, 0, 0, 0, 0, 0, 0, 0, 0, 0, 0, 0, 0, 0, 0, 0]
abbrev mA (x : Int) : Value := .agg #[.int .u8 x, .int .u8 0, .int .u8 0, .int .u8 0, .int .u8 0, .int .u8 0, .int .u8 0, .int .u8 0, .int .u8 0, .int .u8 0, .int .u8 0, .int .u8 0, .int .u8 0, .int .u8 0, .int .u8 0, .int .u8 0]
theorem m1_v : markV m1 = mA 1 := rfl
theorem m2_v : markV m2 = mA 2 := rfl
theorem m3_v : markV m3 = mA 3 := rfl
theorem m12 : xorL m1 m2 = m3 := by decide
theorem xorL_self (a b : List UInt8) (h : a.length = b.length) : xorL (xorL a b) b = a := by
  apply List.ext_getElem
  · simp [xorL, h]
  · intro i h1 h2
    simp only [xorL, List.getElem_zipWith]
    rw [UInt8.xor_assoc, UInt8.xor_self, UInt8.xor_zero]
theorem sub_add (a b : Ce) (ha : a.ok) (hb : b.ok) : (a.add b).sub b = a := by
  obtain ⟨n, m, h⟩ := a
  obtain ⟨n', m', h'⟩ := b
  unfold Ce.add Ce.sub
  have hm : m.length = m'.length := ha.m.trans hb.m.symm
  have e1 : IntKind.i64.wrap (IntKind.i64.wrap (n + n') - n') = n := by
    have h1 := ha.lo
    have h2 := ha.hi
    dsimp only at h1 h2
    rw [IntKind.wrap_i64, IntKind.wrap_i64]; omega
  have e3 : (h ^^^ h') ^^^ h' = h := by rw [UInt64.xor_assoc, UInt64.xor_self, UInt64.xor_zero]
  simp only [e1, xorL_self m m' hm, e3]
theorem pure_of (m : List UInt8) : (Ce.of m).pure = 1 := by unfold Ce.pure Ce.of; simp
theorem xorL_zero (m : List UInt8) (h : m.length = 16) : xorL (List.replicate 16 0) m = m := by
  apply List.ext_getElem
  · simp [xorL, h]
  · intro i h1 h2
    simp only [xorL, List.getElem_zipWith, List.getElem_replicate, UInt8.zero_xor]
theorem pure_neg (m : List UInt8) (h : m.length = 16) : (Ce.zero.sub (Ce.of m)).pure = -1 := by
  have e : Ce.zero.sub (Ce.of m) = ⟨-1, m, check m⟩ := by
    unfold Ce.sub Ce.of Ce.zero
    dsimp only
    rw [xorL_zero m h, UInt64.zero_xor]
    rfl
  rw [e]; unfold Ce.pure; simp
theorem pure_two (c : Ce) (h : c.n = 2) : c.pure = 0 := by unfold Ce.pure; rw [if_neg (by rw [h]; simp)]
set_option maxHeartbeats 40000000 in
theorem first10 (w : World) : Calls Try.prog 12 #[] w fun e w' => e = .returned (.bool true) ∧ Below w.heap.size w w' := by
  go_enter Try.func12, Try.ntmps12
  go_wp2_with fail
  obtain ⟨cA, hA⟩ : ∃ cA, Ce.of m1 = cA := ⟨_, rfl⟩
  obtain ⟨cB, hB⟩ : ∃ cB, Ce.of m2 = cB := ⟨_, rfl⟩
  obtain ⟨cS, hS⟩ : ∃ cS, cA.add cB = cS := ⟨_, rfl⟩
  have cA_ok : cA.ok := hA ▸ Ce.of_ok rfl
  have cB_ok : cB.ok := hB ▸ Ce.of_ok rfl
  have cS_ok : cS.ok := hS ▸ Ce.add_ok cA_ok cB_ok
  have ho := of_any m1 rfl w
  rw [m1_v, hA] at ho
  have HA := Lib.hid hA
  have HBB := Lib.hid hB
  have HS := Lib.hid hS
  clear hA hB hS
  refine ho.mono ?_
  rintro e w1 ⟨rfl, hB1⟩
  clear ho
  go_wp2_with fail
  have ho := of_any m2 rfl w1
  rw [m2_v, HBB.out] at ho
  refine ho.mono ?_
  rintro e w2 ⟨rfl, hB2⟩
  clear ho
  have hb2 := hB1.trans (hB2.mono hB1.size)
  have z1 : CellAt w2.heap.size 26 Ce.zero ((w2.alloc (.cells zeroCells 26)).alloc (.cells zeroCells 26)) := (Below.heap_alloc _ _ _ (by simp)).trans (World.alloc_heap_new _ _)
  have z2 : CellAt (w2.heap.size + 1) 26 Ce.zero ((w2.alloc (.cells zeroCells 26)).alloc (.cells zeroCells 26)) := by
    rw [show w2.heap.size + 1 = (w2.alloc (.cells zeroCells 26)).heap.size by simp]
    exact World.alloc_heap_new _ _
  obtain ⟨s1, a1⟩ := z1.store (c := cA) rfl cA_ok.m
  have z2' : CellAt _ _ _ _ := (heap_setCells_ne w2.heap.size cA.vals 0 _ (w2.heap.size + 1) (by omega)).trans z2
  obtain ⟨s2, a2⟩ := z2'.store (c := cB) rfl cB_ok.m
  have a1' : CellAt _ _ _ _ := (heap_setCells_ne (w2.heap.size + 1) cB.vals 0 _ w2.heap.size (by omega)).trans a1
  have hb3 := Below.setCells (Below.setCells ((hb2.alloc hb2.size (.cells zeroCells 26)).alloc (by simp; have := hb2.size; omega) (.cells zeroCells 26)) w2.heap.size 0 cA.vals hb2.size) (w2.heap.size + 1) 0 cB.vals (by have := hb2.size; omega)
  have L1 := a1'.whole cA_ok.m
  have L2 := a2.whole cB_ok.m
  unfold cellV
  clear z1 z2 z2' hB1 hB2
  go_wp2_with (first | (refine wpList_store_at rfl _ _ _ rfl rfl rfl (s1) ?_) | (refine wpList_store_at rfl _ _ _ rfl rfl rfl (s2) ?_) | (refine wpList_load_at rfl _ _ rfl rfl (L1) ?_) | (refine wpList_load_at rfl _ _ rfl rfl (L2) ?_))
  refine (add_any cA cB cA_ok cB_ok _).mono ?_
  rintro e w4 ⟨rfl, hB4⟩
  have hw2 : w.heap.size ≤ w2.heap.size := hb2.size
  have hz4 : w2.heap.size + 2 ≤ w4.heap.size := by have := hB4.size; rw [size_setCells, size_setCells] at this; simpa using this
  have b1 := a1'.below hB4 (blk_lt a1')
  have b2 := a2.below hB4 (blk_lt a2)
  have hb4 := hb3.trans (hB4.mono hb3.size)
  have z3 : CellAt w4.heap.size 26 Ce.zero (w4.alloc (.cells zeroCells 26)) := zero_at
  obtain ⟨s3, a3⟩ := z3.store (c := cS) rfl cS_ok.m
  have k3 : ∀ k, k < w4.heap.size → ((w4.alloc (.cells zeroCells 26)).setCells w4.heap.size 0 cS.vals).heap[k]? = w4.heap[k]? := fun k hk => (heap_setCells_ne _ _ _ _ _ (by omega)).trans (Below.heap_alloc _ _ _ hk)
  have hb5 := Below.setCells (hb4.alloc hb4.size (.cells zeroCells 26)) w4.heap.size 0 cS.vals hb4.size
  have c1 : CellAt _ _ _ _ := (k3 _ (by omega)).trans b1
  have c2 : CellAt _ _ _ _ := (k3 _ (by omega)).trans b2
  have hsz5 : ((w4.alloc (.cells zeroCells 26)).setCells w4.heap.size 0 cS.vals).heap.size = w4.heap.size + 1 := by rw [size_setCells]; simp
  rw [HS.out]
  unfold cellV
  have L3 := a3.whole cS_ok.m
  have hAL : ∀ k, k < w4.heap.size + 1 → (((w4.alloc (.cells zeroCells 26)).setCells w4.heap.size 0 cS.vals).alloc (.cells #[.slice none 0 0] 44)).heap[k]? = ((w4.alloc (.cells zeroCells 26)).setCells w4.heap.size 0 cS.vals).heap[k]? := fun k hk => Below.heap_alloc _ _ _ (by rw [hsz5]; exact hk)
  have L3' := CellAt.whole (c := cS) (b := w4.heap.size) (T := 26) ((hAL _ (by omega)).trans a3) cS_ok.m
  have hpn := pen_new ((w4.alloc (.cells zeroCells 26)).setCells w4.heap.size 0 cS.vals)
  have d1 : CellAt _ _ _ _ := (hAL _ (by omega)).trans c1
  have d2 : CellAt _ _ _ _ := (hAL _ (by omega)).trans c2
  have d3 : CellAt _ _ _ _ := (hAL _ (by omega)).trans a3
  have hb6 := hb5.alloc hb5.size (.cells #[.slice none 0 0] 44)
  clear b1 b2 c1 c2 a3 k3 hAL z3 hb4 hb5 hB4 L1 L2 L3 s1 s2 hb3 a1 a1' a2
  go_wp2_with (first | (refine wpList_store_at rfl _ _ _ rfl rfl rfl (s3) ?_) | (refine wpList_load_at rfl _ _ rfl rfl (L3') ?_))
  rw [hsz5] at hpn
  have n1 : cA.n = 1 := by rw [← HA.out]; rfl
  have q1 : cA.m = m1 := by rw [← HA.out]; rfl
  have p1 : cA.h = check m1 := by rw [← HA.out]; rfl
  have n3 : cS.n = 2 := by
    have e : cB.n = 1 := by rw [← HBB.out]; rfl
    rw [← HS.out]; show IntKind.i64.wrap (cA.n + cB.n) = 2; rw [n1, e]; rfl
  have q3 : cS.m = m3 := by
    have e : cB.m = m2 := by rw [← HBB.out]; rfl
    rw [← HS.out]; show xorL cA.m cB.m = m3; rw [q1, e]; exact m12
  have u1 : cA.pure = 1 := by rw [← HA.out]; exact pure_of m1
  have u3 : cS.pure = 0 := pure_two cS n3
  have v1 : cS.sub cB = cA := by rw [← HS.out]; exact sub_add cA cB cA_ok cB_ok
  have v2 : (Ce.zero.sub cA).pure = -1 := by rw [← HA.out]; exact pure_neg m1 rfl
  have v3 : sumC [cA, cB] = cS := by
    have e : Ce.zero.add cA = cA := by
      rw [← HA.out]
      unfold Ce.add Ce.zero Ce.of
      dsimp only
      rw [xorL_zero m1 rfl, UInt64.zero_xor]; rfl
    show (Ce.zero.add cA).add cB = cS
    rw [e]; exact HS.out
  have hr3 : cS.right = true := by unfold Ce.right; rw [n3]; rfl
  have hrt : decide (-1048576 ≤ cS.n ∧ cS.n ≤ 1048576) = true := hr3
  obtain ⟨pr, hP, hPb, hPr, _⟩ := hpn
  refine (put_any cS cS_ok hr3 (w4.heap.size + 1) pr [] _ hP (by simp)).mono ?_
  rintro e w7 ⟨rfl, r7, N7, P7, T7⟩
  rw [List.nil_append] at P7
  have hnp : ∀ k, k < w4.heap.size + 1 → ¬ PenM (w4.heap.size + 1) pr k := by
    rintro k hk (e | e)
    · omega
    · have := hPr k e.symm; omega
  have f1 : CellAt w2.heap.size 26 cA w7 := T7.keep d1 (hnp _ (by omega))
  have f2 : CellAt (w2.heap.size + 1) 26 cB w7 := T7.keep d2 (hnp _ (by omega))
  have f3 : CellAt w4.heap.size 26 cS w7 := T7.keep d3 (hnp _ (by omega))
  have hb7 : Below w.heap.size w w7 := hb6.trans (T7.below (fun j hj => Classical.byContradiction fun h => hnp j (by omega) hj) hb6.size)
  have hlt7 := P7.lt
  clear d1 d2 d3 hb6 T7 N7 hP hPb hPr hnp s3 L3'
  have g1 := fun X (hX : Below w7.heap.size w7 X) => (f1.below hX (blk_lt f1))
  have g2 := fun X (hX : Below w7.heap.size w7 X) => (f2.below hX (blk_lt f2))
  have g3 := fun X (hX : Below w7.heap.size w7 X) => (f3.below hX (blk_lt f3))
  have G1 := Lib.hid g1
  have G2 := Lib.hid g2
  have G3 := Lib.hid g3
  have HP7 := Lib.hid P7
  have HB7 := Lib.hid hb7
  clear g1 g2 g3 f1 f2 f3 P7 hb7 hlt7
  have hq1 : (U cA.h == U (check m1)) = true := by rw [p1]; simp
  have N1 := Lib.hid n1
  have Q1 := Lib.hid q1
  have Q3 := Lib.hid q3
  have N3 := Lib.hid n3
  clear n1 q1 p1 q3 n3
  go_wp2_with fail
  refine wp_region_use [[], [0], [1], [2], [3], [3, 4], [3], [3, 5, 6], [3, 7], [8], [9], [9, 10], [9], [9, 12], [9, 11, 13], [9, 14], [15], [16], [16, 17], [16, 18], [16, 19], [20], [21], [21, 22], [21], [21, 23, 24], [21, 25], [26], [27], [27, 28], [27, 29], [27, 30], [31], [32], [32, 33], [32, 34], [32, 35], [36], [37], [37], [37, 38, 39], [37], [37, 40, 41], [37, 42], [43], [44], [44], [44, 45, 46], [44, 47], [44, 48], [44, 49], [50], [51], [51, 52], [53], [54], [54, 55], [54, 56], [54, 57], [54], [54, 58, 59], [54, 60, 58], [61, 58], [62], [62], [62, 63, 64, 58], [62, 65], [62], [62, 66, 67], [62, 68], [69], [70], [70, 71], [70, 72], [73]]
    (fun X => Below w7.heap.size w7 X) (fun _ _ => True) (fun j X Y => Below (if j = 58 then w7.heap.size else X.heap.size) X Y) (fun i => if i = 56 then 57 else if i = 57 then 58 else i)
    (by kernel_rfl) (by kernel_rfl) (by kernel_rfl) (by kernel_rfl) (by decide) (by kernel_rfl) (Below.drew (Below.refl _ _)) (fun _ => trivial)
    (fun j X Y _ hC _ hG => by
      by_cases e : j = 58
      · rw [if_pos e] at hG; exact hC.trans hG
      · rw [if_neg e] at hG; exact hC.trans (hG.mono hC.size))
    (fun _ _ _ _ _ _ _ _ _ _ _ _ => trivial) ?_
  have ck := fun X => check_any m1 rfl X
  rw [m1_v] at ck
  have zr := fun X => sub_any Ce.zero cA Ce.zero_ok cA_ok X
  have zv : cellV Ce.zero = .agg zeroCells := rfl
  rw [zv] at zr
  have em1 : ∀ X, (do eqGuard .eql 23 (.tmp 23) (.tmp 24) (.agg (cA.m.map byteV).toArray) (mA 1); binOp .eql 23 (.agg (cA.m.map byteV).toArray) (mA 1) : Sem Value).run Try.prog X = .ok (.bool true) X := fun X => by
    have h := eqv_mark cA.m m1 cA_ok.m rfl (.tmp 23) (.tmp 24) X
    rw [show (cA.m == m1) = true by rw [Q1.out]; rfl, m1_v] at h
    exact h
  have em3 : ∀ X, (do eqGuard .eql 23 (.tmp 41) (.tmp 42) (.agg (cS.m.map byteV).toArray) (mA 3); binOp .eql 23 (.agg (cS.m.map byteV).toArray) (mA 3) : Sem Value).run Try.prog X = .ok (.bool true) X := fun X => by
    have h := eqv_mark cS.m m3 cS_ok.m rfl (.tmp 41) (.tmp 42) X
    rw [show (cS.m == m3) = true by rw [Q3.out]; rfl, m3_v] at h
    exact h
  have ec : ∀ (c : Ce) (x y : Operand), c.ok → ∀ X, (do eqGuard .eql 26 x y (.agg c.vals.toArray) (.agg c.vals.toArray); binOp .eql 26 (.agg c.vals.toArray) (.agg c.vals.toArray) : Sem Value).run Try.prog X = .ok (.bool true) X := fun c x y hc X => by
    have h := eqv_cell c c hc.m hc.m x y X
    rw [Ce.eq_self] at h
    exact h
  have pa := fun X => pure_any cA cA_ok X
  have ps := fun X => pure_any cS cS_ok X
  have pz := fun X => pure_any (Ce.zero.sub cA) (Ce.sub_ok Ce.zero_ok cA_ok) X
  have sb := fun X => sub_any cS cB cS_ok cB_ok X
  rw [u1] at pa
  rw [u3] at ps
  rw [v2] at pz
  rw [v1] at sb
  unfold cellV at pa ps pz sb zr
  have CK := Lib.hid ck
  have ZR := Lib.hid zr
  have PA := Lib.hid pa
  have PS := Lib.hid ps
  have PZ := Lib.hid pz
  have SB := Lib.hid sb
  have EC := Lib.hid ec
  have E1 := Lib.hid em1
  have E3 := Lib.hid em3
  have V3 := Lib.hid v3
  clear ck zr zv pa ps pz sb ec em1 em3 u1 u3 v1 v2 v3
  have hbl : cS.bytes.length ≤ 100 := by
    have h1 := (zigN cS.n).toNat_lt
    have h2 : (numN (zigN cS.n).toNat).length ≤ 9 := by rw [numN_length]; unfold sizeN; split; omega; have := digits_lt 8 (zigN cS.n).toNat (by omega); omega
    unfold Ce.bytes
    rw [List.length_append, List.length_append, cS_ok.m, eightL_length]
    omega
  have hcb := cell_back cS cS_ok hr3 []
  rw [List.append_nil] at hcb
  have HCB := Lib.hid hcb
  have HK2 : Hid (∀ c ∈ [cA, cB], c.ok) := Lib.hid (by
    intro c hc
    simp only [List.mem_cons, List.not_mem_nil, or_false] at hc
    rcases hc with h | h
    · rw [h]; exact cA_ok
    · rw [h]; exact cB_ok)
  have HRT := Lib.hid hrt
  clear hcb hrt
  iterate 4
    (apply use_fx
     · intro vs X hC hB hA
       try simp only [List.cons_append, List.nil_append, List.getD_cons_zero, List.getD_cons_succ, List.forall_mem_cons, List.not_mem_nil, false_implies, implies_true, and_true] at hA
       simp only [List.getD_cons_zero, List.getD_cons_succ, putL, dstOf, List.foldl_nil, List.foldl_cons, List.getElem?_toArray, List.getElem?_cons_zero, List.getElem?_cons_succ, Option.bind_some, Act.put, List.setIfInBounds_toArray, List.set_cons_zero, List.set_cons_succ]
       try simp only [hA]
       have ad0 := (G1.out X hC).n
       have ad1 := N1.out
       go_wp2_with fail
       first
       | exact ⟨_, rfl, Below.refl _ _, rfl⟩
     simp only [List.cons_append, List.nil_append])
  iterate 3
    (apply use_fx
     · intro vs X hC hB hA
       try simp only [List.cons_append, List.nil_append, List.getD_cons_zero, List.getD_cons_succ, List.forall_mem_cons, List.not_mem_nil, false_implies, implies_true, and_true] at hA
       simp only [List.getD_cons_zero, List.getD_cons_succ, putL, dstOf, List.foldl_nil, List.foldl_cons, List.getElem?_toArray, List.getElem?_cons_zero, List.getElem?_cons_succ, Option.bind_some, Act.put, List.setIfInBounds_toArray, List.set_cons_zero, List.set_cons_succ]
       try simp only [hA]
       go_wp2_with (first | (refine wpList_load_w rfl rfl ((G1.out X hC).mark cA_ok.m) (by first | rfl | (go_simp; done)) ?_))
       first
       | exact ⟨_, rfl, Below.refl _ _, rfl⟩
     simp only [List.cons_append, List.nil_append])
  iterate 3
    (apply use_fx
     · intro vs X hC hB hA
       try simp only [List.cons_append, List.nil_append, List.getD_cons_zero, List.getD_cons_succ, List.forall_mem_cons, List.not_mem_nil, false_implies, implies_true, and_true] at hA
       simp only [List.getD_cons_zero, List.getD_cons_succ, putL, dstOf, List.foldl_nil, List.foldl_cons, List.getElem?_toArray, List.getElem?_cons_zero, List.getElem?_cons_succ, Option.bind_some, Act.put, List.setIfInBounds_toArray, List.set_cons_zero, List.set_cons_succ]
       try simp only [hA]
       go_wp2_with (first | (refine wpList_bin_w rfl rfl rfl (E1.out X) (by first | rfl | (go_simp; done)) ?_))
       first
       | exact ⟨_, rfl, Below.refl _ _, rfl⟩
     simp only [List.cons_append, List.nil_append])
  iterate 3
    (apply use_fx
     · intro vs X hC hB hA
       try simp only [List.cons_append, List.nil_append, List.getD_cons_zero, List.getD_cons_succ, List.forall_mem_cons, List.not_mem_nil, false_implies, implies_true, and_true] at hA
       simp only [List.getD_cons_zero, List.getD_cons_succ, putL, dstOf, List.foldl_nil, List.foldl_cons, List.getElem?_toArray, List.getElem?_cons_zero, List.getElem?_cons_succ, Option.bind_some, Act.put, List.setIfInBounds_toArray, List.set_cons_zero, List.set_cons_succ]
       try simp only [hA]
       have ad0 := (G1.out X hC).h cA_ok.m
       go_wp2_with fail
       first
       | exact ⟨_, rfl, Below.refl _ _, rfl⟩
     simp only [List.cons_append, List.nil_append])
  iterate 4
    (apply use_fx
     · intro vs X hC hB hA
       try simp only [List.cons_append, List.nil_append, List.getD_cons_zero, List.getD_cons_succ, List.forall_mem_cons, List.not_mem_nil, false_implies, implies_true, and_true] at hA
       simp only [List.getD_cons_zero, List.getD_cons_succ, putL, dstOf, List.foldl_nil, List.foldl_cons, List.getElem?_toArray, List.getElem?_cons_zero, List.getElem?_cons_succ, Option.bind_some, Act.put, List.setIfInBounds_toArray, List.set_cons_zero, List.set_cons_succ]
       try simp only [hA]
       go_wp2_with fail
       first
       | exact ⟨_, rfl, Below.refl _ _, rfl⟩
       | ((with_reducible refine (CK.out X).mono ?_); rintro e w' ⟨rfl, hB⟩; go_wp2_with fail; exact ⟨_, rfl, hB, rfl⟩)
     simp only [List.cons_append, List.nil_append])
  iterate 3
    (apply use_fx
     · intro vs X hC hB hA
       try simp only [List.cons_append, List.nil_append, List.getD_cons_zero, List.getD_cons_succ, List.forall_mem_cons, List.not_mem_nil, false_implies, implies_true, and_true] at hA
       simp only [List.getD_cons_zero, List.getD_cons_succ, putL, dstOf, List.foldl_nil, List.foldl_cons, List.getElem?_toArray, List.getElem?_cons_zero, List.getElem?_cons_succ, Option.bind_some, Act.put, List.setIfInBounds_toArray, List.set_cons_zero, List.set_cons_succ]
       try simp only [hA]
       have ad0 := (G3.out X hC).n
       have ad1 := N3.out
       go_wp2_with fail
       first
       | exact ⟨_, rfl, Below.refl _ _, rfl⟩
     simp only [List.cons_append, List.nil_append])
  iterate 2
    (apply use_fx
     · intro vs X hC hB hA
       try simp only [List.cons_append, List.nil_append, List.getD_cons_zero, List.getD_cons_succ, List.forall_mem_cons, List.not_mem_nil, false_implies, implies_true, and_true] at hA
       simp only [List.getD_cons_zero, List.getD_cons_succ, putL, dstOf, List.foldl_nil, List.foldl_cons, List.getElem?_toArray, List.getElem?_cons_zero, List.getElem?_cons_succ, Option.bind_some, Act.put, List.setIfInBounds_toArray, List.set_cons_zero, List.set_cons_succ]
       try simp only [hA]
       go_wp2_with fail
       first
       | exact ⟨_, rfl, Below.refl _ _, rfl⟩
     simp only [List.cons_append, List.nil_append])
  iterate 3
    (apply use_fx
     · intro vs X hC hB hA
       try simp only [List.cons_append, List.nil_append, List.getD_cons_zero, List.getD_cons_succ, List.forall_mem_cons, List.not_mem_nil, false_implies, implies_true, and_true] at hA
       simp only [List.getD_cons_zero, List.getD_cons_succ, putL, dstOf, List.foldl_nil, List.foldl_cons, List.getElem?_toArray, List.getElem?_cons_zero, List.getElem?_cons_succ, Option.bind_some, Act.put, List.setIfInBounds_toArray, List.set_cons_zero, List.set_cons_succ]
       try simp only [hA]
       go_wp2_with (first | (refine wpList_load_w rfl rfl ((G3.out X hC).mark cS_ok.m) (by first | rfl | (go_simp; done)) ?_))
       first
       | exact ⟨_, rfl, Below.refl _ _, rfl⟩
     simp only [List.cons_append, List.nil_append])
  iterate 3
    (apply use_fx
     · intro vs X hC hB hA
       try simp only [List.cons_append, List.nil_append, List.getD_cons_zero, List.getD_cons_succ, List.forall_mem_cons, List.not_mem_nil, false_implies, implies_true, and_true] at hA
       simp only [List.getD_cons_zero, List.getD_cons_succ, putL, dstOf, List.foldl_nil, List.foldl_cons, List.getElem?_toArray, List.getElem?_cons_zero, List.getElem?_cons_succ, Option.bind_some, Act.put, List.setIfInBounds_toArray, List.set_cons_zero, List.set_cons_succ]
       try simp only [hA]
       go_wp2_with (first | (refine wpList_bin_w rfl rfl rfl (E3.out X) (by first | rfl | (go_simp; done)) ?_))
       first
       | exact ⟨_, rfl, Below.refl _ _, rfl⟩
     simp only [List.cons_append, List.nil_append])
  iterate 5
    (apply use_fx
     · intro vs X hC hB hA
       try simp only [List.cons_append, List.nil_append, List.getD_cons_zero, List.getD_cons_succ, List.forall_mem_cons, List.not_mem_nil, false_implies, implies_true, and_true] at hA
       simp only [List.getD_cons_zero, List.getD_cons_succ, putL, dstOf, List.foldl_nil, List.foldl_cons, List.getElem?_toArray, List.getElem?_cons_zero, List.getElem?_cons_succ, Option.bind_some, Act.put, List.setIfInBounds_toArray, List.set_cons_zero, List.set_cons_succ]
       try simp only [hA]
       go_wp2_with (first | (refine wpList_load_w rfl rfl ((G1.out X hC).whole cA_ok.m) (by first | rfl | (go_simp; done)) ?_))
       first
       | exact ⟨_, rfl, Below.refl _ _, rfl⟩
       | ((with_reducible refine (PA.out X).mono ?_); rintro e w' ⟨rfl, hB⟩; go_wp2_with fail; exact ⟨_, rfl, hB, rfl⟩)
     simp only [List.cons_append, List.nil_append])
  iterate 5
    (apply use_fx
     · intro vs X hC hB hA
       try simp only [List.cons_append, List.nil_append, List.getD_cons_zero, List.getD_cons_succ, List.forall_mem_cons, List.not_mem_nil, false_implies, implies_true, and_true] at hA
       simp only [List.getD_cons_zero, List.getD_cons_succ, putL, dstOf, List.foldl_nil, List.foldl_cons, List.getElem?_toArray, List.getElem?_cons_zero, List.getElem?_cons_succ, Option.bind_some, Act.put, List.setIfInBounds_toArray, List.set_cons_zero, List.set_cons_succ]
       try simp only [hA]
       go_wp2_with (first | (refine wpList_load_w rfl rfl ((G3.out X hC).whole cS_ok.m) (by first | rfl | (go_simp; done)) ?_))
       first
       | exact ⟨_, rfl, Below.refl _ _, rfl⟩
       | ((with_reducible refine (PS.out X).mono ?_); rintro e w' ⟨rfl, hB⟩; go_wp2_with fail; exact ⟨_, rfl, hB, rfl⟩)
     simp only [List.cons_append, List.nil_append])
  iterate 3
    (apply use_fx
     · intro vs X hC hB hA
       try simp only [List.cons_append, List.nil_append, List.getD_cons_zero, List.getD_cons_succ, List.forall_mem_cons, List.not_mem_nil, false_implies, implies_true, and_true] at hA
       simp only [List.getD_cons_zero, List.getD_cons_succ, putL, dstOf, List.foldl_nil, List.foldl_cons, List.getElem?_toArray, List.getElem?_cons_zero, List.getElem?_cons_succ, Option.bind_some, Act.put, List.setIfInBounds_toArray, List.set_cons_zero, List.set_cons_succ]
       try simp only [hA]
       go_wp2_with (first | (refine wpList_load_w rfl rfl ((G2.out X hC).whole cB_ok.m) (by first | rfl | (go_simp; done)) ?_) | (refine wpList_load_w rfl rfl ((G3.out X hC).whole cS_ok.m) (by first | rfl | (go_simp; done)) ?_))
       first
       | exact ⟨_, rfl, Below.refl _ _, rfl⟩
       | ((with_reducible refine (SB.out X).mono ?_); rintro e w' ⟨rfl, hB⟩; go_wp2_with fail; exact ⟨_, rfl, hB, rfl⟩)
     simp only [List.cons_append, List.nil_append])
  iterate 4
    (apply use_fx
     · intro vs X hC hB hA
       try simp only [List.cons_append, List.nil_append, List.getD_cons_zero, List.getD_cons_succ, List.forall_mem_cons, List.not_mem_nil, false_implies, implies_true, and_true] at hA
       simp only [List.getD_cons_zero, List.getD_cons_succ, putL, dstOf, List.foldl_nil, List.foldl_cons, List.getElem?_toArray, List.getElem?_cons_zero, List.getElem?_cons_succ, Option.bind_some, Act.put, List.setIfInBounds_toArray, List.set_cons_zero, List.set_cons_succ]
       try simp only [hA]
       go_wp2_with (first | (refine wpList_load_w rfl rfl ((G1.out X hC).whole cA_ok.m) (by first | rfl | (go_simp; done)) ?_) | (refine wpList_bin_w rfl rfl rfl (EC.out cA _ _ cA_ok X) (by first | rfl | (go_simp; done)) ?_))
       first
       | exact ⟨_, rfl, Below.refl _ _, rfl⟩
     simp only [List.cons_append, List.nil_append])
  iterate 3
    (apply use_fx
     · intro vs X hC hB hA
       try simp only [List.cons_append, List.nil_append, List.getD_cons_zero, List.getD_cons_succ, List.forall_mem_cons, List.not_mem_nil, false_implies, implies_true, and_true] at hA
       simp only [List.getD_cons_zero, List.getD_cons_succ, putL, dstOf, List.foldl_nil, List.foldl_cons, List.getElem?_toArray, List.getElem?_cons_zero, List.getElem?_cons_succ, Option.bind_some, Act.put, List.setIfInBounds_toArray, List.set_cons_zero, List.set_cons_succ]
       try simp only [hA]
       go_wp2_with (first | (refine wpList_load_w rfl rfl ((G1.out X hC).whole cA_ok.m) (by first | rfl | (go_simp; done)) ?_))
       first
       | exact ⟨_, rfl, Below.refl _ _, rfl⟩
       | ((with_reducible refine (ZR.out X).mono ?_); rintro e w' ⟨rfl, hB⟩; go_wp2_with fail; exact ⟨_, rfl, hB, rfl⟩)
     simp only [List.cons_append, List.nil_append])
  iterate 8
    (apply use_fx
     · intro vs X hC hB hA
       try simp only [List.cons_append, List.nil_append, List.getD_cons_zero, List.getD_cons_succ, List.forall_mem_cons, List.not_mem_nil, false_implies, implies_true, and_true] at hA
       simp only [List.getD_cons_zero, List.getD_cons_succ, putL, dstOf, List.foldl_nil, List.foldl_cons, List.getElem?_toArray, List.getElem?_cons_zero, List.getElem?_cons_succ, Option.bind_some, Act.put, List.setIfInBounds_toArray, List.set_cons_zero, List.set_cons_succ]
       try simp only [hA]
       go_wp2_with fail
       first
       | exact ⟨_, rfl, Below.refl _ _, rfl⟩
       | ((with_reducible refine (PZ.out X).mono ?_); rintro e w' ⟨rfl, hB⟩; go_wp2_with fail; exact ⟨_, rfl, hB, rfl⟩)
     simp only [List.cons_append, List.nil_append])
  refine use_pr (fun v X => OwnB X v cS.bytes ∧ ∀ k, v.ownBlock = some k → w7.heap.size ≤ k) ?_ ?_ ?_
  · rintro j v X Y _ _ _ hu hC _ hG ⟨h1, h2⟩
    by_cases e : j = 58
    · subst e; exact absurd (by decide) (hu (by decide)).2
    · rw [if_neg e] at hG
      exact ⟨h1.kept (fun g hg => hG.block g (h1.lt hg)), h2⟩
  · intro vs X hC hB hA
    try simp only [List.cons_append, List.nil_append, List.getD_cons_zero, List.getD_cons_succ, List.forall_mem_cons, List.not_mem_nil, false_implies, implies_true, and_true] at hA
    simp only [List.getD_cons_zero, List.getD_cons_succ, putL, dstOf, List.foldl_nil, List.foldl_cons, List.getElem?_toArray, List.getElem?_cons_zero, List.getElem?_cons_succ, Option.bind_some, Act.put, List.setIfInBounds_toArray, List.set_cons_zero, List.set_cons_succ]
    try simp only [hA]
    go_wp2_with fail
    refine (bytes_any (w4.heap.size + 1) r7 cS.bytes X (HP7.out.below hC) (by omega)).mono ?_
    rintro e w' ⟨v', rfl, q1, q2, q3⟩
    go_wp2_with fail
    exact ⟨_, rfl, q3, q1, fun k hk => Nat.le_trans hC.size (q2 k hk)⟩
  simp only [List.cons_append, List.nil_append]
  refine use_pr (fun v X => ∃ lo eb, v = ptr eb ∧ w7.heap.size ≤ eb ∧ lo ≤ X.heap.size ∧ EyeAt lo eb ⟨cS.bytes, 0⟩ X) ?_ ?_ ?_
  · rintro j v X Y _ _ _ hu hC _ hG ⟨lo, eb, h1, h2, h3, h4⟩
    by_cases e : j = 58
    · subst e; exact absurd (by decide) (hu (by decide)).1
    · rw [if_neg e] at hG
      exact ⟨lo, eb, h1, h2, Nat.le_trans h3 hG.size, h4.below hG⟩
  · intro vs X hC hB hA
    try simp only [List.cons_append, List.nil_append, List.getD_cons_zero, List.getD_cons_succ, List.forall_mem_cons, List.not_mem_nil, false_implies, implies_true, and_true] at hA
    simp only [List.getD_cons_zero, List.getD_cons_succ, putL, dstOf, List.foldl_nil, List.foldl_cons, List.getElem?_toArray, List.getElem?_cons_zero, List.getElem?_cons_succ, Option.bind_some, Act.put, List.setIfInBounds_toArray, List.set_cons_zero, List.set_cons_succ]
    try simp only [hA]
    have HO := Lib.hid hA.2
    clear hA
    go_wp2_with fail
    refine (read_any (vs 56) cS.bytes X HO.out.1.at (by omega)).mono ?_
    rintro e w' ⟨eb, rfl, h1, h2, h3⟩
    go_wp2_with fail
    exact ⟨_, rfl, h3, w'.heap.size, eb, rfl, Nat.le_trans hC.size h1, Nat.le_refl _, h2⟩
  simp only [List.cons_append, List.nil_append]
  apply use_fx
  · intro vs X hC hB hA
    try simp only [List.cons_append, List.nil_append, List.getD_cons_zero, List.getD_cons_succ, List.forall_mem_cons, List.not_mem_nil, false_implies, implies_true, and_true] at hA
    simp only [List.getD_cons_zero, List.getD_cons_succ, putL, dstOf, List.foldl_nil, List.foldl_cons, List.getElem?_toArray, List.getElem?_cons_zero, List.getElem?_cons_succ, Option.bind_some, Act.put, List.setIfInBounds_toArray, List.set_cons_zero, List.set_cons_succ]
    try simp only [hA]
    obtain ⟨lo, eb, e57, h1, h2, h3⟩ := hA.2
    have HE := Lib.hid h3
    clear hA h3
    rw [e57]
    go_wp2_with fail
    refine (get_any lo eb ⟨cS.bytes, 0⟩ X HE.out h2 (by dsimp only; omega)).mono ?_
    rintro e w' ⟨rfl, h4, h5⟩
    rw [HCB.out]
    go_wp2_with fail
    exact ⟨_, rfl, h5.below (fun j hj => hj ▸ h1) hC.size, rfl⟩
  simp only [List.cons_append, List.nil_append]
  iterate 4
    (apply use_fx
     · intro vs X hC hB hA
       try simp only [List.cons_append, List.nil_append, List.getD_cons_zero, List.getD_cons_succ, List.forall_mem_cons, List.not_mem_nil, false_implies, implies_true, and_true] at hA
       simp only [List.getD_cons_zero, List.getD_cons_succ, putL, dstOf, List.foldl_nil, List.foldl_cons, List.getElem?_toArray, List.getElem?_cons_zero, List.getElem?_cons_succ, Option.bind_some, Act.put, List.setIfInBounds_toArray, List.set_cons_zero, List.set_cons_succ]
       try simp only [hA]
       go_wp2_with (first | (refine wpList_load_w rfl rfl ((G3.out X hC).whole cS_ok.m) (by first | rfl | (go_simp; done)) ?_) | (refine wpList_bin_w rfl rfl rfl (EC.out cS _ _ cS_ok X) (by first | rfl | (go_simp; done)) ?_))
       first
       | exact ⟨_, rfl, Below.refl _ _, rfl⟩
     simp only [List.cons_append, List.nil_append])
  iterate 2
    (apply use_fx
     · intro vs X hC hB hA
       try simp only [List.cons_append, List.nil_append, List.getD_cons_zero, List.getD_cons_succ, List.forall_mem_cons, List.not_mem_nil, false_implies, implies_true, and_true] at hA
       simp only [List.getD_cons_zero, List.getD_cons_succ, putL, dstOf, List.foldl_nil, List.foldl_cons, List.getElem?_toArray, List.getElem?_cons_zero, List.getElem?_cons_succ, Option.bind_some, Act.put, List.setIfInBounds_toArray, List.set_cons_zero, List.set_cons_succ]
       try simp only [hA]
       go_wp2_with (first | (refine wpList_load_w rfl rfl ((G1.out X hC).whole cA_ok.m) (by first | rfl | (go_simp; done)) ?_) | (refine wpList_load_w rfl rfl ((G2.out X hC).whole cB_ok.m) (by first | rfl | (go_simp; done)) ?_))
       first
       | exact ⟨_, rfl, Below.refl _ _, rfl⟩
     simp only [List.cons_append, List.nil_append])
  refine use_pr (fun v X => CellsAt X v [cA, cB]) ?_ ?_ ?_
  · rintro j v X Y _ _ hjp _ hC _ hG h
    by_cases e : j = 58
    · subst e; exact absurd (by decide) hjp
    · rw [if_neg e] at hG
      exact h.below hG
  · intro vs X hC hB hA
    try simp only [List.cons_append, List.nil_append, List.getD_cons_zero, List.getD_cons_succ, List.forall_mem_cons, List.not_mem_nil, false_implies, implies_true, and_true] at hA
    simp only [List.getD_cons_zero, List.getD_cons_succ, putL, dstOf, List.foldl_nil, List.foldl_cons, List.getElem?_toArray, List.getElem?_cons_zero, List.getElem?_cons_succ, Option.bind_some, Act.put, List.setIfInBounds_toArray, List.set_cons_zero, List.set_cons_succ]
    try simp only [hA]
    have hmk := mk_two cA cB cA_ok.m cB_ok.m X
    unfold cellV at hmk
    go_wp2_with (first | (refine wpList_mk_w rfl (by go_simp) hmk (by first | rfl | (go_simp; done)) ?_))
    refine ⟨_, rfl, (Below.refl _ _).alloc (Nat.le_refl _) _, _, _, rfl, Nat.le_refl _, ?_⟩
    intro i c hi
    have hnew := World.alloc_heap_new X (.cells (cA.vals ++ cB.vals).toArray 26)
    refine ⟨_, 0, rfl, blk_lt hnew, blk_range hnew _ _ ?_⟩
    intro j v hv
    have hA18 := cA.vals_length cA_ok.m
    have hB18 := cB.vals_length cB_ok.m
    rcases i with _ | _ | i
    · simp at hi; subst hi
      rw [show 0 + 0 * 18 + j = j by omega, List.getElem?_append_left (List.getElem?_eq_some_iff.1 hv).1]
      exact hv
    · simp at hi; subst hi
      rw [List.getElem?_append_right (by omega), hA18, show 0 + (0 + 1) * 18 + j - 18 = j by omega]
      exact hv
    · simp at hi
  simp only [List.cons_append, List.nil_append]
  apply use_fx
  · intro vs X hC hB hA
    try simp only [List.cons_append, List.nil_append, List.getD_cons_zero, List.getD_cons_succ, List.forall_mem_cons, List.not_mem_nil, false_implies, implies_true, and_true] at hA
    simp only [List.getD_cons_zero, List.getD_cons_succ, putL, dstOf, List.foldl_nil, List.foldl_cons, List.getElem?_toArray, List.getElem?_cons_zero, List.getElem?_cons_succ, Option.bind_some, Act.put, List.setIfInBounds_toArray, List.set_cons_zero, List.set_cons_succ]
    try simp only [hA]
    have HCL := Lib.hid hA.2
    clear hA
    go_wp2_with fail
    refine (sum_cells (vs 65) [cA, cB] X HCL.out HK2.out (by simp)).mono ?_
    rintro e w' ⟨rfl, hBS⟩
    rw [V3.out]
    go_wp2_with fail
    exact ⟨_, rfl, hBS, rfl⟩
  simp only [List.cons_append, List.nil_append]
  have rt := fun X => right_any cS cS_ok X
  rw [HRT.out] at rt
  unfold cellV at rt
  have RT := Lib.hid rt
  clear rt
  iterate 4
    (apply use_fx
     · intro vs X hC hB hA
       try simp only [List.cons_append, List.nil_append, List.getD_cons_zero, List.getD_cons_succ, List.forall_mem_cons, List.not_mem_nil, false_implies, implies_true, and_true] at hA
       simp only [List.getD_cons_zero, List.getD_cons_succ, putL, dstOf, List.foldl_nil, List.foldl_cons, List.getElem?_toArray, List.getElem?_cons_zero, List.getElem?_cons_succ, Option.bind_some, Act.put, List.setIfInBounds_toArray, List.set_cons_zero, List.set_cons_succ]
       try simp only [hA]
       go_wp2_with (first | (refine wpList_load_w rfl rfl ((G3.out X hC).whole cS_ok.m) (by first | rfl | (go_simp; done)) ?_) | (refine wpList_bin_w rfl rfl rfl (EC.out cS _ _ cS_ok X) (by first | rfl | (go_simp; done)) ?_))
       first
       | exact ⟨_, rfl, Below.refl _ _, rfl⟩
     simp only [List.cons_append, List.nil_append])
  iterate 4
    (apply use_fx
     · intro vs X hC hB hA
       try simp only [List.cons_append, List.nil_append, List.getD_cons_zero, List.getD_cons_succ, List.forall_mem_cons, List.not_mem_nil, false_implies, implies_true, and_true] at hA
       simp only [List.getD_cons_zero, List.getD_cons_succ, putL, dstOf, List.foldl_nil, List.foldl_cons, List.getElem?_toArray, List.getElem?_cons_zero, List.getElem?_cons_succ, Option.bind_some, Act.put, List.setIfInBounds_toArray, List.set_cons_zero, List.set_cons_succ]
       try simp only [hA]
       go_wp2_with (first | (refine wpList_load_w rfl rfl ((G3.out X hC).whole cS_ok.m) (by first | rfl | (go_simp; done)) ?_))
       first
       | exact ⟨_, rfl, Below.refl _ _, rfl⟩
       | ((with_reducible refine (RT.out X).mono ?_); rintro e w' ⟨rfl, hB⟩; go_wp2_with fail; exact ⟨_, rfl, hB, rfl⟩)
     simp only [List.cons_append, List.nil_append])
  refine use_nil ?_
  intro vs X hC hA
  simp only [Exit.then]
  refine (‹∀ (a : Act) (w : World), Code.wp Try.prog Code.ret _ a w → _›) _ _ (wp_ret ?_)
  have e74 : vs 74 = .bool true := hA 74 (by decide) (by decide)
  have hfin := HB7.out.trans (hC.mono HB7.out.size)
  exact bodyPost_ret (results_tmp rfl _ _ _) rfl ⟨congrArg Ending.returned ((show _ = vs 74 from by kernel_rfl).trans e74), hfin⟩
end Go.Proofs.Ytkdbbdlkfpjdfaa
