/- The walk of the law CellTells.
   Conditions: those that the theorem names. -/
import Derived.Test.YtkdbbdlkfpjdfaaC10A
import Derived.Test.YtkdbbdlkfpjdfaaC10K
import Derived.Test.YtkdbbdlkfpjdfaaRef10
namespace Go.Proofs.Ytkdbbdlkfpjdfaa
set_option maxRecDepth 100000
set_option linter.unusedVariables false
set_option linter.unusedSimpArgs false
open Go.RowKit Go.Rg
attribute [local go_sem] Rg.q_add Rg.q_add' Rg.q_xor Rg.q_or Rg.q_and markV cellV max_two max2_int min_two min2_int
set_option maxHeartbeats 8000000 in
theorem tells_walk (A B C : Ce) (M : List UInt8) (lv mv : Value) (cs : List Ce) (w : World) (hcs : CellsAt w lv cs) (hk : ∀ c ∈ cs, c.ok) (hA0 : A.ok) (hB0 : B.ok) (hC0 : C.ok) (hM : M.length = 16) :
    Calls Try.prog 3 #[.agg (caseL A B C M lv mv).toArray] w fun e w' => e = .returned (.bool true) ∧ Below w.heap.size w w' := by
  have HCS := Lib.hid hcs
  have HK := Lib.hid hk
  obtain ⟨pm, capm, hmv, hcapm, _⟩ := hcs
  have HMV := Lib.hid hmv
  clear hmv hk
  go_enter Try.func3, Try.ntmps3
  go_wp2_with fail
  refine (first10 _).mono ?_
  rintro e w1 ⟨rfl, hB1⟩
  have hbx : w1.heap[w.heap.size]? = some (.cells (caseL A B C M lv mv).toArray 30 (0, 0)) := (hB1.block _ (by simp)).trans (World.alloc_heap_new _ _)
  have hBw : Below w.heap.size w w1 := ((Below.refl _ _).alloc (Nat.le_refl _) _).trans (hB1.mono (by simp))
  have HBX := Lib.hid hbx
  have HBW := Lib.hid hBw
  clear hbx hBw hB1
  go_wp2_with fail
  have hlt := blk_lt HBX.out
  have lA := fun X (hX : Below w1.heap.size w1 X) => cell_load (blk_range ((hX.block _ hlt).trans HBX.out) 0 A.vals case_A) hA0.m
  have lB := fun X (hX : Below w1.heap.size w1 X) => cell_load (blk_range ((hX.block _ hlt).trans HBX.out) 18 B.vals (case_B hA0.m)) hB0.m
  have lM := fun X (hX : Below w1.heap.size w1 X) => mark_load ((hX.block _ hlt).trans HBX.out) hM (o := 54) (case_M hA0.m hB0.m hC0.m)
  have lS := fun X (hX : Below w1.heap.size w1 X) => (cell_at ((hX.block _ hlt).trans HBX.out) 70).trans (case_l hA0.m hB0.m hC0.m hM).1
  have LA := Lib.hid lA
  have LB := Lib.hid lB
  have LM := Lib.hid lM
  have LS := Lib.hid lS
  clear lA lB lM lS
  refine wp_region_all [[], [0], [], [2], [], [4], [], [6], [], [], [], [8, 1], [9, 3], [10, 5], [7]]
    (fun X => Below w1.heap.size w1 X) (fun _ _ => True) (BG w1.heap.size [⟨8, 11, 26, Ce.zero.vals, A.vals⟩, ⟨9, 12, 26, Ce.zero.vals, B.vals⟩, ⟨10, 13, 23, (List.replicate 16 0).map byteV, M.map byteV⟩])
    (BJ w1.heap.size [⟨8, 11, 26, Ce.zero.vals, A.vals⟩, ⟨9, 12, 26, Ce.zero.vals, B.vals⟩, ⟨10, 13, 23, (List.replicate 16 0).map byteV, M.map byteV⟩]) (fun i => i)
    (by kernel_rfl) (by kernel_rfl) (by kernel_rfl) (by kernel_rfl) (by decide) rfl (Below.drew (Below.refl _ _)) (fun _ => trivial) (BJ.start _ _ _ _)
    (fun i done vs v X Y _ hd hp hJ hC _ hG => BJ.step (by simp) (by simp) hd hp hJ hC.size hG)
    (fun j us u X Y _ hC _ hG => hC.trans (hG.1))
    (fun _ _ _ _ _ _ _ _ _ _ _ _ _ _ => trivial) ?_
  iterate 8
    (apply all_fx
     · intro vs X hC hB hJ hA
       try simp only [List.cons_append, List.nil_append, List.getD_cons_zero, List.getD_cons_succ, List.forall_mem_cons, List.not_mem_nil, false_implies, implies_true, and_true] at hA
       simp only [List.getD_cons_zero, List.getD_cons_succ, putL, dstOf, List.foldl_nil, List.foldl_cons, List.getElem?_toArray, List.getElem?_cons_zero, List.getElem?_cons_succ, Option.bind_some, Act.put, List.setIfInBounds_toArray, List.set_cons_zero, List.set_cons_succ]
       try simp only [hA]
       have ad0 := LS.out X hC
       go_wp2_with (first | (refine wpList_load_w rfl rfl (LA.out X hC) (by first | rfl | (go_simp; done)) ?_) | (refine wpList_load_w rfl rfl (LB.out X hC) (by first | rfl | (go_simp; done)) ?_) | (refine wpList_load_w rfl rfl (LM.out X hC) (by first | rfl | (go_simp; done)) ?_))
       exact ⟨_, rfl, BG.none [(8, 11), (9, 12), (10, 13)] rfl rfl hC.size (Below.refl _ _), rfl⟩
     simp only [List.cons_append, List.nil_append])
  refine all_pr (fun v _ => ∃ b, v = ptr b) (fun _ _ _ _ _ _ _ _ _ _ _ _ _ h => h) ?_ ?_
  · intro vs X hC hB hJ hA
    try simp only [List.cons_append, List.nil_append, List.getD_cons_zero, List.getD_cons_succ, List.forall_mem_cons, List.not_mem_nil, false_implies, implies_true, and_true] at hA
    simp only [List.getD_cons_zero, List.getD_cons_succ, putL, dstOf, List.foldl_nil, List.foldl_cons, List.getElem?_toArray, List.getElem?_cons_zero, List.getElem?_cons_succ, Option.bind_some, Act.put, List.setIfInBounds_toArray, List.set_cons_zero, List.set_cons_succ]
    try simp only [hA]
    go_wp2_with fail
    exact ⟨_, rfl, BG.alloc [(8, 11), (9, 12), (10, 13)] rfl rfl 26 Ce.zero.vals (by simp) hC.size, _, rfl⟩
  simp only [List.cons_append, List.nil_append]
  refine all_pr (fun v _ => ∃ b, v = ptr b) (fun _ _ _ _ _ _ _ _ _ _ _ _ _ h => h) ?_ ?_
  · intro vs X hC hB hJ hA
    try simp only [List.cons_append, List.nil_append, List.getD_cons_zero, List.getD_cons_succ, List.forall_mem_cons, List.not_mem_nil, false_implies, implies_true, and_true] at hA
    simp only [List.getD_cons_zero, List.getD_cons_succ, putL, dstOf, List.foldl_nil, List.foldl_cons, List.getElem?_toArray, List.getElem?_cons_zero, List.getElem?_cons_succ, Option.bind_some, Act.put, List.setIfInBounds_toArray, List.set_cons_zero, List.set_cons_succ]
    try simp only [hA]
    go_wp2_with fail
    exact ⟨_, rfl, BG.alloc [(8, 11), (9, 12), (10, 13)] rfl rfl 26 Ce.zero.vals (by simp) hC.size, _, rfl⟩
  simp only [List.cons_append, List.nil_append]
  refine all_pr (fun v _ => ∃ b, v = ptr b) (fun _ _ _ _ _ _ _ _ _ _ _ _ _ h => h) ?_ ?_
  · intro vs X hC hB hJ hA
    try simp only [List.cons_append, List.nil_append, List.getD_cons_zero, List.getD_cons_succ, List.forall_mem_cons, List.not_mem_nil, false_implies, implies_true, and_true] at hA
    simp only [List.getD_cons_zero, List.getD_cons_succ, putL, dstOf, List.foldl_nil, List.foldl_cons, List.getElem?_toArray, List.getElem?_cons_zero, List.getElem?_cons_succ, Option.bind_some, Act.put, List.setIfInBounds_toArray, List.set_cons_zero, List.set_cons_succ]
    try simp only [hA]
    go_wp2_with fail
    exact ⟨_, rfl, BG.alloc [(8, 11), (9, 12), (10, 13)] rfl rfl 23 ((List.replicate 16 0).map byteV) (by simp) hC.size, _, rfl⟩
  simp only [List.cons_append, List.nil_append]
  refine all_pr (fun _ _ => True) (fun _ _ _ _ _ _ _ _ _ _ _ _ _ h => h) ?_ ?_
  · intro vs X hC hB hJ hA
    try simp only [List.cons_append, List.nil_append, List.getD_cons_zero, List.getD_cons_succ, List.forall_mem_cons, List.not_mem_nil, false_implies, implies_true, and_true] at hA
    simp only [List.getD_cons_zero, List.getD_cons_succ, putL, dstOf, List.foldl_nil, List.foldl_cons, List.getElem?_toArray, List.getElem?_cons_zero, List.getElem?_cons_succ, Option.bind_some, Act.put, List.setIfInBounds_toArray, List.set_cons_zero, List.set_cons_succ]
    try simp only [hA]
    obtain ⟨done, hd, hp, hj⟩ := hJ
    obtain ⟨b, hb, hlb, _, hz, _⟩ := (hj ⟨8, 11, 26, Ce.zero.vals, A.vals⟩ (by simp)).2 (hp 8 (by simp))
    have hz' : CellAt b 26 Ce.zero X := hz hd
    obtain ⟨s1, _⟩ := hz'.store (c := A) rfl hA0.m
    have HZ := Lib.hid hz'
    have HJJ := Lib.hid hj
    rw [hb]
    have HV := Lib.hid hb
    clear hz hz' hj hb hp
    go_wp2_with (first | (refine wpList_store_at rfl _ _ _ rfl rfl rfl (s1) ?_))
    exact ⟨undef, rfl, BG.store (old := Ce.zero.vals) (new := A.vals) [(8, 11), (9, 12), (10, 13)] rfl 8 rfl (by simp) HV.out hlb HZ.out (by rw [Ce.vals_length _ hA0.m]; rfl) (by simp)⟩
  simp only [List.cons_append, List.nil_append]
  refine all_pr (fun _ _ => True) (fun _ _ _ _ _ _ _ _ _ _ _ _ _ h => h) ?_ ?_
  · intro vs X hC hB hJ hA
    try simp only [List.cons_append, List.nil_append, List.getD_cons_zero, List.getD_cons_succ, List.forall_mem_cons, List.not_mem_nil, false_implies, implies_true, and_true] at hA
    simp only [List.getD_cons_zero, List.getD_cons_succ, putL, dstOf, List.foldl_nil, List.foldl_cons, List.getElem?_toArray, List.getElem?_cons_zero, List.getElem?_cons_succ, Option.bind_some, Act.put, List.setIfInBounds_toArray, List.set_cons_zero, List.set_cons_succ]
    try simp only [hA]
    obtain ⟨done, hd, hp, hj⟩ := hJ
    obtain ⟨b, hb, hlb, _, hz, _⟩ := (hj ⟨9, 12, 26, Ce.zero.vals, B.vals⟩ (by simp)).2 (hp 9 (by simp))
    have hz' : CellAt b 26 Ce.zero X := hz hd
    obtain ⟨s1, _⟩ := hz'.store (c := B) rfl hB0.m
    have HZ := Lib.hid hz'
    have HJJ := Lib.hid hj
    rw [hb]
    have HV := Lib.hid hb
    clear hz hz' hj hb hp
    go_wp2_with (first | (refine wpList_store_at rfl _ _ _ rfl rfl rfl (s1) ?_))
    exact ⟨undef, rfl, BG.store (old := Ce.zero.vals) (new := B.vals) [(8, 11), (9, 12), (10, 13)] rfl 9 rfl (by simp) HV.out hlb HZ.out (by rw [Ce.vals_length _ hB0.m]; rfl) (by simp)⟩
  simp only [List.cons_append, List.nil_append]
  refine all_pr (fun _ _ => True) (fun _ _ _ _ _ _ _ _ _ _ _ _ _ h => h) ?_ ?_
  · intro vs X hC hB hJ hA
    try simp only [List.cons_append, List.nil_append, List.getD_cons_zero, List.getD_cons_succ, List.forall_mem_cons, List.not_mem_nil, false_implies, implies_true, and_true] at hA
    simp only [List.getD_cons_zero, List.getD_cons_succ, putL, dstOf, List.foldl_nil, List.foldl_cons, List.getElem?_toArray, List.getElem?_cons_zero, List.getElem?_cons_succ, Option.bind_some, Act.put, List.setIfInBounds_toArray, List.set_cons_zero, List.set_cons_succ]
    try simp only [hA]
    obtain ⟨done, hd, hp, hj⟩ := hJ
    obtain ⟨b, hb, hlb, _, hz, _⟩ := (hj ⟨10, 13, 23, (List.replicate 16 0).map byteV, M.map byteV⟩ (by simp)).2 (hp 10 (by simp))
    have hz' := hz hd
    obtain ⟨s1, _⟩ := mark_store hz' (m := M) (by simp) hM
    have HZ := Lib.hid hz'
    have HJJ := Lib.hid hj
    rw [hb]
    have HV := Lib.hid hb
    clear hz hz' hj hb hp
    go_wp2_with (first | (refine wpList_store_at rfl _ _ _ rfl rfl rfl (s1) ?_))
    exact ⟨undef, rfl, BG.store (old := (List.replicate 16 0).map byteV) (new := M.map byteV) [(8, 11), (9, 12), (10, 13)] rfl 10 rfl (by simp) HV.out hlb HZ.out (by simp [hM]) (by simp)⟩
  simp only [List.cons_append, List.nil_append]
  iterate 1
    (apply all_fx
     · intro vs X hC hB hJ hA
       try simp only [List.cons_append, List.nil_append, List.getD_cons_zero, List.getD_cons_succ, List.forall_mem_cons, List.not_mem_nil, false_implies, implies_true, and_true] at hA
       simp only [List.getD_cons_zero, List.getD_cons_succ, putL, dstOf, List.foldl_nil, List.foldl_cons, List.getElem?_toArray, List.getElem?_cons_zero, List.getElem?_cons_succ, Option.bind_some, Act.put, List.setIfInBounds_toArray, List.set_cons_zero, List.set_cons_succ]
       try simp only [hA]
       go_wp2_with fail
       exact ⟨_, rfl, BG.none [(8, 11), (9, 12), (10, 13)] rfl rfl hC.size (Below.refl _ _), rfl⟩
     simp only [List.cons_append, List.nil_append])
  refine all_nil ?_
  intro vs X hC hA hJ
  rw [(fun (l : List Oper) (h : l.length = 15) => (by rw [h]; rfl : List.range l.length = [0, 1, 2, 3, 4, 5, 6, 7, 8, 9, 10, 11, 12, 13, 14])) _ rfl]
  simp only [List.getD_cons_zero, List.getD_cons_succ, putL, dstOf, List.foldl_nil, List.foldl_cons, List.getElem?_toArray, List.getElem?_cons_zero, List.getElem?_cons_succ, Option.bind_some, Act.put, List.setIfInBounds_toArray, List.set_cons_zero, List.set_cons_succ]
  obtain ⟨done, hd, hj⟩ := hJ
  obtain ⟨b0, q0, l0, f0, _, u0⟩ := (hj ⟨8, 11, 26, Ce.zero.vals, A.vals⟩ (by simp)).2 (hd 8 (by decide))
  obtain ⟨b1, q1, l1, f1, _, u1⟩ := (hj ⟨9, 12, 26, Ce.zero.vals, B.vals⟩ (by simp)).2 (hd 9 (by decide))
  obtain ⟨b3, q3, l3, f3, _, u3⟩ := (hj ⟨10, 13, 23, (List.replicate 16 0).map byteV, M.map byteV⟩ (by simp)).2 (hd 10 (by decide))
  have e14 : vs 14 = .slice pm cs.length capm := (hA 14 (by decide) (by trivial)).trans HMV.out
  have k0 : CellAt b0 26 A X := f0 (hd 11 (by decide))
  have k1 : CellAt b1 26 B X := f1 (hd 12 (by decide))
  have k3 := f3 (hd 13 (by decide))
  dsimp only at q0 q1 q3
  rw [q0, q1, q3, e14]
  clear hA hj u0 u1 u3 f0 f1 f3 hd
  have hBX := HBW.out.trans (hC.mono HBW.out.size)
  have K0 := Lib.hid k0
  have K1 := Lib.hid k1
  have K3 := Lib.hid k3
  have HX := Lib.hid hBX
  have hm1 := HCS.out.below hBX
  rw [HMV.out] at hm1
  have HM1 := Lib.hid hm1
  clear hm1
  have hX1 : w1.heap.size ≤ X.heap.size := hC.size
  have hw1 : w.heap.size ≤ w1.heap.size := HBW.out.size
  clear k0 k1 k3 q0 q1 q3 e14 hBX hC LA LB LM LS HBX
  by_cases hln : 50 < cs.length
  · have e1 : decide ((50 : Int) < (cs.length : Int)) = true := decide_eq_true (by omega)
    go_wp2_with fail
    go_ret
    exact ⟨rfl, HX.out⟩
  have e1 : decide ((50 : Int) < (cs.length : Int)) = false := decide_eq_false (by omega)
  have s7 : CellAt X.heap.size 26 (sumC (cs.take 0)) (X.alloc (.cells zeroCells 26)) := zero_at
  have t7 : Touch (fun k => k = X.heap.size) X (X.alloc (.cells zeroCells 26)) := (Touch.refl _ _).alloc _
  have S7 := Lib.hid s7
  have T7 := Lib.hid t7
  have c0 : b0 ≠ X.heap.size := by have := blk_lt K0.out; omega
  have c1 : b1 ≠ X.heap.size := by have := blk_lt K1.out; omega
  have c3 : b3 ≠ X.heap.size := by have := blk_lt K3.out; omega
  clear s7 t7
  go_wp2_with fail
  go_loopw [9, 25] (fun _ c wr => ∃ i : Nat, i ≤ cs.length ∧ c = .int .i64 (i : Int) ∧ Hid (CellAt X.heap.size 26 (sumC (cs.take i)) wr) ∧ Hid (Touch (fun k => k = X.heap.size) X wr)) (fun _ c _ => cs.length - (intOf c).toNat)
  case atStart => exact ⟨0, by omega, rfl, S7, T7⟩
  case round =>
    obtain ⟨i, hi, rfl, HR, HT⟩ := hrel
    have hBX : Below X.heap.size X wr := HT.out.below (n := X.heap.size) (fun j hj => by show X.heap.size ≤ j; rw [hj]; exact Nat.le_refl _) (Nat.le_refl _)
    by_cases hil : i < cs.length
    · have e1 : decide ((i : Int) < (cs.length : Int)) = true := decide_eq_true (by omega)
      obtain ⟨c, hc⟩ : ∃ c, cs[i]? = some c := ⟨_, List.getElem?_eq_getElem hil⟩
      have hcok := HK.out c (List.mem_of_getElem? hc)
      have hcm := hcok.m
      obtain ⟨q, cap', e, _, hf⟩ := HM1.out.below hBX
      cases e
      obtain ⟨g, o, rfl, hg, hr⟩ := hf i c hc
      have hL := cell_load hr hcm
      obtain ⟨a1, a2⟩ := (zero_at (w := wr) (T := 26)).store (c := c) rfl hcm
      have hlt := blk_lt HR.out
      have hA : ∀ k, k < wr.heap.size → ((wr.alloc (.cells zeroCells 26)).setCells wr.heap.size 0 c.vals).heap[k]? = wr.heap[k]? := fun k hk => (heap_setCells_ne _ _ _ _ _ (by omega)).trans (Below.heap_alloc _ _ _ hk)
      have m1 : CellAt X.heap.size 26 (sumC (cs.take i)) _ := (hA _ hlt).trans HR.out
      have hok := sumC_ok (cs.take i) (fun y hy => HK.out y (List.mem_of_mem_take hy))
      have L1 := m1.whole hok.m
      have L2 := a2.whole hcm
      have hT5 := (HT.out.alloc (.cells zeroCells 26)).setCells wr.heap.size 0 c.vals (.inr HT.out.size)
      have hnx : (sumC (cs.take i)).radd c 1 = sumC (cs.take (i + 1)) := by rw [Ce.radd_one, ← sumC_snoc, List.take_add_one, hc]; rfl
      have hnok : (sumC (cs.take (i + 1))).ok := sumC_ok _ (fun y hy => HK.out y (List.mem_of_mem_take hy))
      have HNX := Lib.hid hnx
      have HT5 := Lib.hid hT5
      have M1 := Lib.hid m1
      clear hc hf hr hA hnx hT5 m1 a2 hBX HR HT
      go_wp2_with (first | (refine wpList_load_at rfl _ _ rfl rfl (hL) ?_) | (refine wpList_store_at rfl _ _ _ rfl rfl rfl (a1) ?_) | (refine wpList_load_at rfl _ _ rfl rfl (L1) ?_) | (refine wpList_load_at rfl _ _ rfl rfl (L2) ?_))
      clear hL a1 L1 L2
      generalize (wr.alloc (.cells zeroCells 26)).setCells wr.heap.size 0 c.vals = w5 at *
      refine (refadd_any (sumC (cs.take i)) c 1 hok hcok w5).mono ?_
      rintro e w6 ⟨rfl, hB6⟩
      rw [HNX.out]
      obtain ⟨s1, s2⟩ := (M1.out.below hB6 (blk_lt M1.out)).store (c := sumC (cs.take (i + 1))) hok.m hnok.m
      have hT6 : Touch (fun k => k = X.heap.size) X (w6.setCells X.heap.size 0 (sumC (cs.take (i + 1))).vals) := (HT5.out.trans (Touch.of_below (M := fun k => k = X.heap.size) hB6) (fun _ _ h => h)).setCells _ _ _ (.inl rfl)
      have S2 := Lib.hid s2
      have HT6 := Lib.hid hT6
      clear s2 hT6 hB6
      go_wp2_with (first | (refine wpList_store_at rfl _ _ _ rfl rfl rfl (s1) ?_))
      clear s1
      go_roundw
      case rel => exact ⟨i + 1, by omega, by go_num, S2, HT6⟩
      case measure => simp [intOf]; omega
    · have e1 : decide ((i : Int) < (cs.length : Int)) = false := decide_eq_false (by omega)
      have hR := HR.out
      rw [List.take_of_length_le (by omega)] at hR
      have hBw : Below w.heap.size w wr := HX.out.trans (hBX.mono HX.out.size)
      have k0 : CellAt b0 26 A wr := HT.out.keep K0.out c0
      have k1 : CellAt b1 26 B wr := HT.out.keep K1.out c1
      have k3 := HT.out.keep K3.out c3
      obtain ⟨S, hS⟩ : ∃ S, sumC cs = S := ⟨_, rfl⟩
      have sok : S.ok := hS ▸ sumC_ok cs HK.out
      have lA := fun Y (hY : Below wr.heap.size wr Y) => CellAt.whole (k0.below hY (blk_lt k0)) hA0.m
      have lB := fun Y (hY : Below wr.heap.size wr Y) => CellAt.whole (k1.below hY (blk_lt k1)) hB0.m
      have lM := fun Y (hY : Below wr.heap.size wr Y) => mark_whole ((hY.block _ (blk_lt k3)).trans k3) hM
      rw [hS] at hR
      have lX := fun Y (hY : Below wr.heap.size wr Y) => CellAt.whole (hR.below hY (blk_lt hR)) sok.m
      have a1 := fun Y => add_any A B hA0 hB0 Y
      have a2 := fun Y => refadd_any A B 1 hA0 hB0 Y
      have a3 := fun Y => sub_any A B hA0 hB0 Y
      have a4 := fun Y => refadd_any A B (-1) hA0 hB0 Y
      have a5 := fun Y => check_any M hM Y
      have a6 := fun Y => refcheck_any M hM Y
      have a7 := fun Y => of_any M hM Y
      have a8 := fun Y => refof_any M hM Y
      have a9 := fun Y => pure_any A hA0 Y
      have a10 := fun Y => refpure_any A hA0 Y
      have a11 := fun Y => right_any A hA0 Y
      have a12 := fun Y => refright_any A hA0 Y
      have a13 := fun Y (hY : Below wr.heap.size wr Y) => sum_cells _ cs Y (HM1.out.below (hBX.trans (hY.mono hBX.size))) HK.out (by omega)
      rw [Ce.radd_one] at a2
      rw [Ce.radd_neg] at a4
      rw [hS] at a13
      have abok := Ce.add_ok hA0 hB0
      have sbok := Ce.sub_ok hA0 hB0
      have ofok := Ce.of_ok hM
      have ec : ∀ (c : Ce) (x y : Operand), c.ok → ∀ X, (do eqGuard .eql 26 x y (.agg c.vals.toArray) (.agg c.vals.toArray); binOp .eql 26 (.agg c.vals.toArray) (.agg c.vals.toArray) : Sem Value).run Try.prog X = .ok (.bool true) X := fun c x y hc X => by
        have h := eqv_cell c c hc.m hc.m x y X
        rw [Ce.eq_self] at h
        exact h
      unfold cellV at a1 a2 a3 a4 a7 a8 a9 a10 a11 a12 a13
      unfold markV at a5 a6 a7 a8
      generalize A.add B = ab at *
      generalize A.sub B = sb at *
      generalize Ce.of M = om at *
      generalize A.pure = pa at *
      generalize check M = ck at *
      generalize decide (-1048576 ≤ A.n ∧ A.n ≤ 1048576) = ra at *
      have A1 := Lib.hid a1
      have A2 := Lib.hid a2
      have A3 := Lib.hid a3
      have A4 := Lib.hid a4
      have A5 := Lib.hid a5
      have A6 := Lib.hid a6
      have A7 := Lib.hid a7
      have A8 := Lib.hid a8
      have A9 := Lib.hid a9
      have A10 := Lib.hid a10
      have A11 := Lib.hid a11
      have A12 := Lib.hid a12
      have A13 := Lib.hid a13
      have EC := Lib.hid ec
      have LA := Lib.hid lA
      have LB := Lib.hid lB
      have LX := Lib.hid lX
      have LM := Lib.hid lM
      have HBW2 := Lib.hid hBw
      clear a1 a2 a3 a4 a5 a6 a7 a8 a9 a10 a11 a12 a13 ec lA lB lX lM hBw hBX k0 k1 k3 hR HR hS K0 K1 K3
      go_wp2_with fail
      refine wp_region_calm_lit (by kernel_rfl) (by kernel_rfl) ?_
      repeat
        first
        | (apply calm_want
           · first | rfl | (go_simp; done)
           · intro X hX
             first
             | exact calm_load rfl rfl (LA.out X hX) hX
             | exact calm_load rfl rfl (LB.out X hX) hX
             | exact calm_load rfl rfl (LX.out X hX) hX
             | exact calm_load rfl rfl (LM.out X hX) hX
             | exact calm_bin rfl rfl rfl (EC.out ab _ _ abok X) hX
             | exact calm_bin rfl rfl rfl (EC.out sb _ _ sbok X) hX
             | exact calm_bin rfl rfl rfl (EC.out om _ _ ofok X) hX
             | exact calm_bin rfl rfl rfl (EC.out S _ _ sok X) hX
             | (go_simp
                first
                  | done
                  | rfl
                  | (refine ⟨trivial, ?_⟩; (first | with_reducible exact calls_calm hX (A1.out X) | with_reducible exact calls_calm hX (A2.out X) | with_reducible exact calls_calm hX (A3.out X) | with_reducible exact calls_calm hX (A4.out X) | with_reducible exact calls_calm hX (A5.out X) | with_reducible exact calls_calm hX (A6.out X) | with_reducible exact calls_calm hX (A7.out X) | with_reducible exact calls_calm hX (A8.out X) | with_reducible exact calls_calm hX (A9.out X) | with_reducible exact calls_calm hX (A10.out X) | with_reducible exact calls_calm hX (A11.out X) | with_reducible exact calls_calm hX (A12.out X) | with_reducible exact calls_calm hX (A13.out X hX)); done)
                  | ((first | with_reducible exact calls_calm hX (A1.out X) | with_reducible exact calls_calm hX (A2.out X) | with_reducible exact calls_calm hX (A3.out X) | with_reducible exact calls_calm hX (A4.out X) | with_reducible exact calls_calm hX (A5.out X) | with_reducible exact calls_calm hX (A6.out X) | with_reducible exact calls_calm hX (A7.out X) | with_reducible exact calls_calm hX (A8.out X) | with_reducible exact calls_calm hX (A9.out X) | with_reducible exact calls_calm hX (A10.out X) | with_reducible exact calls_calm hX (A11.out X) | with_reducible exact calls_calm hX (A12.out X) | with_reducible exact calls_calm hX (A13.out X hX)); done))
           intro K hK
           go_simp
           refine hK _ ?_
           clear hK K)
        | (apply calm_skip
           · first | rfl | (go_simp; done)
           intro K hK
           go_simp
           refine hK _ ?_
           clear hK K)
      refine wpQuiet_nil ?_
      intro X hX
      have hfin := HBW2.out.trans (hX.mono HBW2.out.size)
      go_wp2_with fail
      go_ret
      exact ⟨rfl, hfin⟩
end Go.Proofs.Ytkdbbdlkfpjdfaa
