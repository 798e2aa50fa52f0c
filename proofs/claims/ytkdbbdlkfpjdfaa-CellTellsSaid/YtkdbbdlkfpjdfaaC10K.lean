/- The walk of the law CellHolds.
   Conditions: those that the theorem names. -/
import Derived.Test.YtkdbbdlkfpjdfaaC10A
import Derived.Test.YtkdbbdlkfpjdfaaCelS
import Derived.Test.YtkdbbdlkfpjdfaaCelL
import Derived.Test.YtkdbbdlkfpjdfaaBox
import Derived.Test.YtkdbbdlkfpjdfaaMarks
namespace Go.Proofs.Ytkdbbdlkfpjdfaa
set_option maxRecDepth 100000
set_option linter.unusedVariables false
set_option linter.unusedSimpArgs false
open Go.RowKit Go.Rg
set_option linter.unusedVariables false
attribute [local go_sem] Rg.q_add Rg.q_add' Rg.q_xor Rg.q_or Rg.q_and markV cellV max_two max2_int min_two min2_int
/-- A case: three cells, a mark, two slices. -/
def caseL (A B C : Ce) (M : List UInt8) (lv mv : Value) : List Value := A.vals ++ (B.vals ++ (C.vals ++ (M.map byteV ++ [lv, mv])))
theorem case_A {A B C : Ce} {M : List UInt8} {lv mv : Value} (j : Nat) (v : Value) (h : A.vals[j]? = some v) : (caseL A B C M lv mv)[0 + j]? = some v := by
  unfold caseL
  rw [Nat.zero_add, List.getElem?_append_left (List.getElem?_eq_some_iff.1 h).1, h]
theorem case_B {A B C : Ce} {M : List UInt8} {lv mv : Value} (hA : A.m.length = 16) (j : Nat) (v : Value) (h : B.vals[j]? = some v) : (caseL A B C M lv mv)[18 + j]? = some v := by
  unfold caseL
  have h1 := A.vals_length hA
  rw [List.getElem?_append_right (by omega), h1, show 18 + j - 18 = j by omega, List.getElem?_append_left (List.getElem?_eq_some_iff.1 h).1, h]
theorem case_C {A B C : Ce} {M : List UInt8} {lv mv : Value} (hA : A.m.length = 16) (hB : B.m.length = 16) (j : Nat) (v : Value) (h : C.vals[j]? = some v) : (caseL A B C M lv mv)[36 + j]? = some v := by
  unfold caseL
  have h1 := A.vals_length hA
  have h2 := B.vals_length hB
  rw [List.getElem?_append_right (by omega), h1, List.getElem?_append_right (by omega), h2, show 36 + j - 18 - 18 = j by omega, List.getElem?_append_left (List.getElem?_eq_some_iff.1 h).1, h]
theorem case_M {A B C : Ce} {M : List UInt8} {lv mv : Value} (hA : A.m.length = 16) (hB : B.m.length = 16) (hC : C.m.length = 16) (j : Nat) (v : Value) (h : (M.map byteV)[j]? = some v) : (caseL A B C M lv mv)[54 + j]? = some v := by
  unfold caseL
  have h1 := A.vals_length hA
  have h2 := B.vals_length hB
  have h3 := C.vals_length hC
  rw [List.getElem?_append_right (by omega), h1, List.getElem?_append_right (by omega), h2, List.getElem?_append_right (by omega), h3, show 54 + j - 18 - 18 - 18 = j by omega, List.getElem?_append_left (List.getElem?_eq_some_iff.1 h).1, h]
theorem case_l {A B C : Ce} {M : List UInt8} {lv mv : Value} (hA : A.m.length = 16) (hB : B.m.length = 16) (hC : C.m.length = 16) (hM : M.length = 16) : (caseL A B C M lv mv)[70]? = some lv ∧ (caseL A B C M lv mv)[71]? = some mv := by
  unfold caseL
  have h1 := A.vals_length hA
  have h2 := B.vals_length hB
  have h3 := C.vals_length hC
  have h4 : (M.map byteV).length = 16 := by rw [List.length_map, hM]
  constructor
  all_goals rw [List.getElem?_append_right (by omega), h1, List.getElem?_append_right (by omega), h2, List.getElem?_append_right (by omega), h3, List.getElem?_append_right (by omega), h4]
  all_goals rfl
theorem sub_self (a : Ce) (h : a.ok) : a.sub a = Ce.zero := by
  have := sub_add Ce.zero a Ce.zero_ok h
  rwa [Ce.zero_add a h] at this
def addM (x : Ce) (ms : List (List UInt8)) : Ce := ms.foldl (fun x m => x.add (Ce.of m)) x
theorem addM_snoc (x : Ce) (ms : List (List UInt8)) (m : List UInt8) : addM x (ms ++ [m]) = (addM x ms).add (Ce.of m) := by simp [addM]
theorem addM_ok (ms : List (List UInt8)) : ∀ (x : Ce), x.ok → Marks16 ms → (addM x ms).ok := by
  induction ms with
  | nil => intro x h _; exact h
  | cons m t ih => intro x h hm; exact ih _ (Ce.add_ok h (Ce.of_ok (hm m (by simp)))) (fun y hy => hm y (by simp [hy]))
set_option maxHeartbeats 4000000 in
theorem holds_walk (A B C : Ce) (M : List UInt8) (lv mv : Value) (ms : List (List UInt8)) (w : World) (hms : MarksAt w mv ms) (h16 : Marks16 ms) (hA0 : A.ok) (hB0 : B.ok) (hC0 : C.ok) (hM : M.length = 16) :
    Calls Try.prog 4 #[.agg (caseL A B C M lv mv).toArray] w fun e w' => e = .returned (.bool true) ∧ Below w.heap.size w w' := by
  have HMS := Lib.hid hms
  obtain ⟨pm, capm, hmv, hcapm, _⟩ := hms
  have HMV := Lib.hid hmv
  clear hmv
  go_enter Try.func4, Try.ntmps4
  go_wp2_with fail
  refine (first10 _).mono ?_
  rintro e w1 ⟨rfl, hB1⟩
  have hbx : w1.heap[w.heap.size]? = some (.cells (caseL A B C M lv mv).toArray 30 (0, 0)) := (hB1.block _ (by simp)).trans (World.alloc_heap_new _ _)
  have hBw : Below w.heap.size w w1 := ((Below.refl _ _).alloc (Nat.le_refl _) _).trans (hB1.mono (by simp))
  have HBX := Lib.hid hbx
  have HBW := Lib.hid hBw
  clear hbx hBw hB1
  go_wp2_with fail
  have hlt := blk_lt HBX.out
  have lA := fun X (hX : Below w1.heap.size w1 X) => cell_load (blk_range ((hX.block _ hlt).trans HBX.out) 0 A.vals case_A) hA0.m
  have lB := fun X (hX : Below w1.heap.size w1 X) => cell_load (blk_range ((hX.block _ hlt).trans HBX.out) 18 B.vals (case_B hA0.m)) hB0.m
  have lC := fun X (hX : Below w1.heap.size w1 X) => cell_load (blk_range ((hX.block _ hlt).trans HBX.out) 36 C.vals (case_C hA0.m hB0.m)) hC0.m
  have lM := fun X (hX : Below w1.heap.size w1 X) => mark_load ((hX.block _ hlt).trans HBX.out) hM (o := 54) (case_M hA0.m hB0.m hC0.m)
  have lS := fun X (hX : Below w1.heap.size w1 X) => (cell_at ((hX.block _ hlt).trans HBX.out) 71).trans (case_l hA0.m hB0.m hC0.m hM).2
  have LA := Lib.hid lA
  have LB := Lib.hid lB
  have LC := Lib.hid lC
  have LM := Lib.hid lM
  have LS := Lib.hid lS
  clear lA lB lC lM lS
  refine wp_region_all [[], [0], [], [2], [], [4], [], [6], [], [8], [], [], [], [], [10, 1], [11, 3], [12, 5], [13, 7], [9]]
    (fun X => Below w1.heap.size w1 X) (fun _ _ => True) (BG w1.heap.size [⟨10, 14, 26, Ce.zero.vals, A.vals⟩, ⟨11, 15, 26, Ce.zero.vals, B.vals⟩, ⟨12, 16, 26, Ce.zero.vals, C.vals⟩, ⟨13, 17, 23, (List.replicate 16 0).map byteV, M.map byteV⟩])
    (BJ w1.heap.size [⟨10, 14, 26, Ce.zero.vals, A.vals⟩, ⟨11, 15, 26, Ce.zero.vals, B.vals⟩, ⟨12, 16, 26, Ce.zero.vals, C.vals⟩, ⟨13, 17, 23, (List.replicate 16 0).map byteV, M.map byteV⟩]) (fun i => i)
    (by kernel_rfl) (by kernel_rfl) (by kernel_rfl) (by kernel_rfl) (by decide) rfl (Below.drew (Below.refl _ _)) (fun _ => trivial) (BJ.start _ _ _ _)
    (fun i done vs v X Y _ hd hp hJ hC _ hG => BJ.step (by simp) (by simp) hd hp hJ hC.size hG)
    (fun j us u X Y _ hC _ hG => hC.trans (hG.1))
    (fun _ _ _ _ _ _ _ _ _ _ _ _ _ _ => trivial) ?_
  iterate 10
    (apply all_fx
     · intro vs X hC hB hJ hA
       try simp only [List.cons_append, List.nil_append, List.getD_cons_zero, List.getD_cons_succ, List.forall_mem_cons, List.not_mem_nil, false_implies, implies_true, and_true] at hA
       simp only [List.getD_cons_zero, List.getD_cons_succ, putL, dstOf, List.foldl_nil, List.foldl_cons, List.getElem?_toArray, List.getElem?_cons_zero, List.getElem?_cons_succ, Option.bind_some, Act.put, List.setIfInBounds_toArray, List.set_cons_zero, List.set_cons_succ]
       try simp only [hA]
       have ad0 := LS.out X hC
       go_wp2_with (first | (refine wpList_load_w rfl rfl (LA.out X hC) (by first | rfl | (go_simp; done)) ?_) | (refine wpList_load_w rfl rfl (LB.out X hC) (by first | rfl | (go_simp; done)) ?_) | (refine wpList_load_w rfl rfl (LC.out X hC) (by first | rfl | (go_simp; done)) ?_) | (refine wpList_load_w rfl rfl (LM.out X hC) (by first | rfl | (go_simp; done)) ?_))
       exact ⟨_, rfl, BG.none [(10, 14), (11, 15), (12, 16), (13, 17)] rfl rfl hC.size (Below.refl _ _), rfl⟩
     simp only [List.cons_append, List.nil_append])
  refine all_pr (fun v _ => ∃ b, v = ptr b) (fun _ _ _ _ _ _ _ _ _ _ _ _ _ h => h) ?_ ?_
  · intro vs X hC hB hJ hA
    try simp only [List.cons_append, List.nil_append, List.getD_cons_zero, List.getD_cons_succ, List.forall_mem_cons, List.not_mem_nil, false_implies, implies_true, and_true] at hA
    simp only [List.getD_cons_zero, List.getD_cons_succ, putL, dstOf, List.foldl_nil, List.foldl_cons, List.getElem?_toArray, List.getElem?_cons_zero, List.getElem?_cons_succ, Option.bind_some, Act.put, List.setIfInBounds_toArray, List.set_cons_zero, List.set_cons_succ]
    try simp only [hA]
    go_wp2_with fail
    exact ⟨_, rfl, BG.alloc [(10, 14), (11, 15), (12, 16), (13, 17)] rfl rfl 26 Ce.zero.vals (by simp) hC.size, _, rfl⟩
  simp only [List.cons_append, List.nil_append]
  refine all_pr (fun v _ => ∃ b, v = ptr b) (fun _ _ _ _ _ _ _ _ _ _ _ _ _ h => h) ?_ ?_
  · intro vs X hC hB hJ hA
    try simp only [List.cons_append, List.nil_append, List.getD_cons_zero, List.getD_cons_succ, List.forall_mem_cons, List.not_mem_nil, false_implies, implies_true, and_true] at hA
    simp only [List.getD_cons_zero, List.getD_cons_succ, putL, dstOf, List.foldl_nil, List.foldl_cons, List.getElem?_toArray, List.getElem?_cons_zero, List.getElem?_cons_succ, Option.bind_some, Act.put, List.setIfInBounds_toArray, List.set_cons_zero, List.set_cons_succ]
    try simp only [hA]
    go_wp2_with fail
    exact ⟨_, rfl, BG.alloc [(10, 14), (11, 15), (12, 16), (13, 17)] rfl rfl 26 Ce.zero.vals (by simp) hC.size, _, rfl⟩
  simp only [List.cons_append, List.nil_append]
  refine all_pr (fun v _ => ∃ b, v = ptr b) (fun _ _ _ _ _ _ _ _ _ _ _ _ _ h => h) ?_ ?_
  · intro vs X hC hB hJ hA
    try simp only [List.cons_append, List.nil_append, List.getD_cons_zero, List.getD_cons_succ, List.forall_mem_cons, List.not_mem_nil, false_implies, implies_true, and_true] at hA
    simp only [List.getD_cons_zero, List.getD_cons_succ, putL, dstOf, List.foldl_nil, List.foldl_cons, List.getElem?_toArray, List.getElem?_cons_zero, List.getElem?_cons_succ, Option.bind_some, Act.put, List.setIfInBounds_toArray, List.set_cons_zero, List.set_cons_succ]
    try simp only [hA]
    go_wp2_with fail
    exact ⟨_, rfl, BG.alloc [(10, 14), (11, 15), (12, 16), (13, 17)] rfl rfl 26 Ce.zero.vals (by simp) hC.size, _, rfl⟩
  simp only [List.cons_append, List.nil_append]
  refine all_pr (fun v _ => ∃ b, v = ptr b) (fun _ _ _ _ _ _ _ _ _ _ _ _ _ h => h) ?_ ?_
  · intro vs X hC hB hJ hA
    try simp only [List.cons_append, List.nil_append, List.getD_cons_zero, List.getD_cons_succ, List.forall_mem_cons, List.not_mem_nil, false_implies, implies_true, and_true] at hA
    simp only [List.getD_cons_zero, List.getD_cons_succ, putL, dstOf, List.foldl_nil, List.foldl_cons, List.getElem?_toArray, List.getElem?_cons_zero, List.getElem?_cons_succ, Option.bind_some, Act.put, List.setIfInBounds_toArray, List.set_cons_zero, List.set_cons_succ]
    try simp only [hA]
    go_wp2_with fail
    exact ⟨_, rfl, BG.alloc [(10, 14), (11, 15), (12, 16), (13, 17)] rfl rfl 23 ((List.replicate 16 0).map byteV) (by simp) hC.size, _, rfl⟩
  simp only [List.cons_append, List.nil_append]
  refine all_pr (fun _ _ => True) (fun _ _ _ _ _ _ _ _ _ _ _ _ _ h => h) ?_ ?_
  · intro vs X hC hB hJ hA
    try simp only [List.cons_append, List.nil_append, List.getD_cons_zero, List.getD_cons_succ, List.forall_mem_cons, List.not_mem_nil, false_implies, implies_true, and_true] at hA
    simp only [List.getD_cons_zero, List.getD_cons_succ, putL, dstOf, List.foldl_nil, List.foldl_cons, List.getElem?_toArray, List.getElem?_cons_zero, List.getElem?_cons_succ, Option.bind_some, Act.put, List.setIfInBounds_toArray, List.set_cons_zero, List.set_cons_succ]
    try simp only [hA]
    obtain ⟨done, hd, hp, hj⟩ := hJ
    obtain ⟨b, hb, hlb, _, hz, _⟩ := (hj ⟨10, 14, 26, Ce.zero.vals, A.vals⟩ (by simp)).2 (hp 10 (by simp))
    have hz' : CellAt b 26 Ce.zero X := hz hd
    obtain ⟨s1, _⟩ := hz'.store (c := A) rfl hA0.m
    have HZ := Lib.hid hz'
    have HJJ := Lib.hid hj
    rw [hb]
    have HV := Lib.hid hb
    clear hz hz' hj hb hp
    go_wp2_with (first | (refine wpList_store_at rfl _ _ _ rfl rfl rfl (s1) ?_))
    exact ⟨undef, rfl, BG.store (old := Ce.zero.vals) (new := A.vals) [(10, 14), (11, 15), (12, 16), (13, 17)] rfl 10 rfl (by simp) HV.out hlb HZ.out (by rw [Ce.vals_length _ hA0.m]; rfl) (by simp)⟩
  simp only [List.cons_append, List.nil_append]
  refine all_pr (fun _ _ => True) (fun _ _ _ _ _ _ _ _ _ _ _ _ _ h => h) ?_ ?_
  · intro vs X hC hB hJ hA
    try simp only [List.cons_append, List.nil_append, List.getD_cons_zero, List.getD_cons_succ, List.forall_mem_cons, List.not_mem_nil, false_implies, implies_true, and_true] at hA
    simp only [List.getD_cons_zero, List.getD_cons_succ, putL, dstOf, List.foldl_nil, List.foldl_cons, List.getElem?_toArray, List.getElem?_cons_zero, List.getElem?_cons_succ, Option.bind_some, Act.put, List.setIfInBounds_toArray, List.set_cons_zero, List.set_cons_succ]
    try simp only [hA]
    obtain ⟨done, hd, hp, hj⟩ := hJ
    obtain ⟨b, hb, hlb, _, hz, _⟩ := (hj ⟨11, 15, 26, Ce.zero.vals, B.vals⟩ (by simp)).2 (hp 11 (by simp))
    have hz' : CellAt b 26 Ce.zero X := hz hd
    obtain ⟨s1, _⟩ := hz'.store (c := B) rfl hB0.m
    have HZ := Lib.hid hz'
    have HJJ := Lib.hid hj
    rw [hb]
    have HV := Lib.hid hb
    clear hz hz' hj hb hp
    go_wp2_with (first | (refine wpList_store_at rfl _ _ _ rfl rfl rfl (s1) ?_))
    exact ⟨undef, rfl, BG.store (old := Ce.zero.vals) (new := B.vals) [(10, 14), (11, 15), (12, 16), (13, 17)] rfl 11 rfl (by simp) HV.out hlb HZ.out (by rw [Ce.vals_length _ hB0.m]; rfl) (by simp)⟩
  simp only [List.cons_append, List.nil_append]
  refine all_pr (fun _ _ => True) (fun _ _ _ _ _ _ _ _ _ _ _ _ _ h => h) ?_ ?_
  · intro vs X hC hB hJ hA
    try simp only [List.cons_append, List.nil_append, List.getD_cons_zero, List.getD_cons_succ, List.forall_mem_cons, List.not_mem_nil, false_implies, implies_true, and_true] at hA
    simp only [List.getD_cons_zero, List.getD_cons_succ, putL, dstOf, List.foldl_nil, List.foldl_cons, List.getElem?_toArray, List.getElem?_cons_zero, List.getElem?_cons_succ, Option.bind_some, Act.put, List.setIfInBounds_toArray, List.set_cons_zero, List.set_cons_succ]
    try simp only [hA]
    obtain ⟨done, hd, hp, hj⟩ := hJ
    obtain ⟨b, hb, hlb, _, hz, _⟩ := (hj ⟨12, 16, 26, Ce.zero.vals, C.vals⟩ (by simp)).2 (hp 12 (by simp))
    have hz' : CellAt b 26 Ce.zero X := hz hd
    obtain ⟨s1, _⟩ := hz'.store (c := C) rfl hC0.m
    have HZ := Lib.hid hz'
    have HJJ := Lib.hid hj
    rw [hb]
    have HV := Lib.hid hb
    clear hz hz' hj hb hp
    go_wp2_with (first | (refine wpList_store_at rfl _ _ _ rfl rfl rfl (s1) ?_))
    exact ⟨undef, rfl, BG.store (old := Ce.zero.vals) (new := C.vals) [(10, 14), (11, 15), (12, 16), (13, 17)] rfl 12 rfl (by simp) HV.out hlb HZ.out (by rw [Ce.vals_length _ hC0.m]; rfl) (by simp)⟩
  simp only [List.cons_append, List.nil_append]
  refine all_pr (fun _ _ => True) (fun _ _ _ _ _ _ _ _ _ _ _ _ _ h => h) ?_ ?_
  · intro vs X hC hB hJ hA
    try simp only [List.cons_append, List.nil_append, List.getD_cons_zero, List.getD_cons_succ, List.forall_mem_cons, List.not_mem_nil, false_implies, implies_true, and_true] at hA
    simp only [List.getD_cons_zero, List.getD_cons_succ, putL, dstOf, List.foldl_nil, List.foldl_cons, List.getElem?_toArray, List.getElem?_cons_zero, List.getElem?_cons_succ, Option.bind_some, Act.put, List.setIfInBounds_toArray, List.set_cons_zero, List.set_cons_succ]
    try simp only [hA]
    obtain ⟨done, hd, hp, hj⟩ := hJ
    obtain ⟨b, hb, hlb, _, hz, _⟩ := (hj ⟨13, 17, 23, (List.replicate 16 0).map byteV, M.map byteV⟩ (by simp)).2 (hp 13 (by simp))
    have hz' := hz hd
    obtain ⟨s1, _⟩ := mark_store hz' (m := M) (by simp) hM
    have HZ := Lib.hid hz'
    have HJJ := Lib.hid hj
    rw [hb]
    have HV := Lib.hid hb
    clear hz hz' hj hb hp
    go_wp2_with (first | (refine wpList_store_at rfl _ _ _ rfl rfl rfl (s1) ?_))
    exact ⟨undef, rfl, BG.store (old := (List.replicate 16 0).map byteV) (new := M.map byteV) [(10, 14), (11, 15), (12, 16), (13, 17)] rfl 13 rfl (by simp) HV.out hlb HZ.out (by simp [hM]) (by simp)⟩
  simp only [List.cons_append, List.nil_append]
  iterate 1
    (apply all_fx
     · intro vs X hC hB hJ hA
       try simp only [List.cons_append, List.nil_append, List.getD_cons_zero, List.getD_cons_succ, List.forall_mem_cons, List.not_mem_nil, false_implies, implies_true, and_true] at hA
       simp only [List.getD_cons_zero, List.getD_cons_succ, putL, dstOf, List.foldl_nil, List.foldl_cons, List.getElem?_toArray, List.getElem?_cons_zero, List.getElem?_cons_succ, Option.bind_some, Act.put, List.setIfInBounds_toArray, List.set_cons_zero, List.set_cons_succ]
       try simp only [hA]
       go_wp2_with fail
       exact ⟨_, rfl, BG.none [(10, 14), (11, 15), (12, 16), (13, 17)] rfl rfl hC.size (Below.refl _ _), rfl⟩
     simp only [List.cons_append, List.nil_append])
  refine all_nil ?_
  intro vs X hC hA hJ
  rw [(fun (l : List Oper) (h : l.length = 19) => (by rw [h]; rfl : List.range l.length = [0, 1, 2, 3, 4, 5, 6, 7, 8, 9, 10, 11, 12, 13, 14, 15, 16, 17, 18])) _ rfl]
  simp only [List.getD_cons_zero, List.getD_cons_succ, putL, dstOf, List.foldl_nil, List.foldl_cons, List.getElem?_toArray, List.getElem?_cons_zero, List.getElem?_cons_succ, Option.bind_some, Act.put, List.setIfInBounds_toArray, List.set_cons_zero, List.set_cons_succ]
  obtain ⟨done, hd, hj⟩ := hJ
  obtain ⟨b0, q0, l0, f0, _, u0⟩ := (hj ⟨10, 14, 26, Ce.zero.vals, A.vals⟩ (by simp)).2 (hd 10 (by decide))
  obtain ⟨b1, q1, l1, f1, _, u1⟩ := (hj ⟨11, 15, 26, Ce.zero.vals, B.vals⟩ (by simp)).2 (hd 11 (by decide))
  obtain ⟨b2, q2, l2, f2, _, u2⟩ := (hj ⟨12, 16, 26, Ce.zero.vals, C.vals⟩ (by simp)).2 (hd 12 (by decide))
  obtain ⟨b3, q3, l3, f3, _, u3⟩ := (hj ⟨13, 17, 23, (List.replicate 16 0).map byteV, M.map byteV⟩ (by simp)).2 (hd 13 (by decide))
  have e18 : vs 18 = .slice pm ms.length capm := (hA 18 (by decide) (by trivial)).trans HMV.out
  have k0 : CellAt b0 26 A X := f0 (hd 14 (by decide))
  have k1 : CellAt b1 26 B X := f1 (hd 15 (by decide))
  have k2 : CellAt b2 26 C X := f2 (hd 16 (by decide))
  have k3 := f3 (hd 17 (by decide))
  dsimp only at q0 q1 q2 q3
  rw [q0, q1, q2, q3, e18]
  clear hA hj u0 u1 u2 u3 f0 f1 f2 f3 hd
  have hBX := HBW.out.trans (hC.mono HBW.out.size)
  have K0 := Lib.hid k0
  have K1 := Lib.hid k1
  have K2 := Lib.hid k2
  have K3 := Lib.hid k3
  have HX := Lib.hid hBX
  have hm1 := HMS.out.below hBX
  rw [HMV.out] at hm1
  have HM1 := Lib.hid hm1
  clear hm1
  have hX1 : w1.heap.size ≤ X.heap.size := hC.size
  have hw1 : w.heap.size ≤ w1.heap.size := HBW.out.size
  clear k0 k1 k2 k3 q0 q1 q2 q3 e18 hBX hC LA LB LC LM LS HBX
  by_cases hln : 50 < ms.length
  · have e1 : decide ((50 : Int) < (ms.length : Int)) = true := decide_eq_true (by omega)
    go_wp2_with fail
    go_ret
    exact ⟨rfl, HX.out⟩
  have e1 : decide ((50 : Int) < (ms.length : Int)) = false := decide_eq_false (by omega)
  have hlM := mark_whole K3.out hM
  go_wp2_with (first | (refine wpList_load_at rfl _ _ rfl rfl (hlM) ?_))
  refine (of_any M hM X).mono ?_
  rintro e w2 ⟨rfl, hB2⟩
  obtain ⟨x0, hx0⟩ : ∃ x0, Ce.of M = x0 := ⟨_, rfl⟩
  have x0ok : x0.ok := hx0 ▸ Ce.of_ok hM
  rw [hx0]
  have HX0 := Lib.hid hx0
  obtain ⟨a1, a2⟩ := (zero_at (w := w2) (T := 26)).store (c := x0) rfl x0ok.m
  have hAk : ∀ k, k < w2.heap.size → ((w2.alloc (.cells zeroCells 26)).setCells w2.heap.size 0 x0.vals).heap[k]? = w2.heap[k]? := fun k hk => (heap_setCells_ne _ _ _ _ _ (by omega)).trans (Below.heap_alloc _ _ _ hk)
  have z2 := hB2.size
  have j0 : CellAt b0 26 A _ := (hAk _ (Nat.lt_of_lt_of_le (blk_lt K0.out) z2)).trans (K0.out.below hB2 (blk_lt K0.out))
  have j1 : CellAt b1 26 B _ := (hAk _ (Nat.lt_of_lt_of_le (blk_lt K1.out) z2)).trans (K1.out.below hB2 (blk_lt K1.out))
  have j2 : CellAt b2 26 C _ := (hAk _ (Nat.lt_of_lt_of_le (blk_lt K2.out) z2)).trans (K2.out.below hB2 (blk_lt K2.out))
  have j3 := (hAk _ (Nat.lt_of_lt_of_le (blk_lt K3.out) z2)).trans ((hB2.block _ (blk_lt K3.out)).trans K3.out)
  have hB3 : Below X.heap.size X ((w2.alloc (.cells zeroCells 26)).setCells w2.heap.size 0 x0.vals) := Below.setCells (hB2.alloc z2 _) _ _ _ z2
  have hzz : w2.heap.size < ((w2.alloc (.cells zeroCells 26)).setCells w2.heap.size 0 x0.vals).heap.size := by rw [size_setCells]; simp
  have c0 : b0 ≠ w2.heap.size := by have := blk_lt K0.out; omega
  have c1 : b1 ≠ w2.heap.size := by have := blk_lt K1.out; omega
  have c2 : b2 ≠ w2.heap.size := by have := blk_lt K2.out; omega
  have c3 : b3 ≠ w2.heap.size := by have := blk_lt K3.out; omega
  have hkx : X.heap.size ≤ w2.heap.size := z2
  have J0 := Lib.hid j0
  have J1 := Lib.hid j1
  have J2 := Lib.hid j2
  have J3 := Lib.hid j3
  have HB3 := Lib.hid hB3
  have AX := Lib.hid a2
  clear j0 j1 j2 j3 hB3 a2 hAk K0 K1 K2 K3 hlM hB2 z2 hx0
  go_wp2_with (first | (refine wpList_store_at rfl _ _ _ rfl rfl rfl (a1) ?_))
  clear a1
  generalize (w2.alloc (.cells zeroCells 26)).setCells w2.heap.size 0 x0.vals = w3 at *
  generalize w2.heap.size = kx at *
  go_loopw [10, 31] (fun _ c wr => ∃ i : Nat, i ≤ ms.length ∧ c = .int .i64 (i : Int) ∧ Hid (CellAt kx 26 (addM x0 (ms.take i)) wr) ∧ Hid (Touch (fun k => k = kx) w3 wr)) (fun _ c _ => ms.length - (intOf c).toNat)
  case atStart => exact ⟨0, by omega, rfl, AX, Lib.hid (Touch.refl _ _)⟩
  case round =>
    obtain ⟨i, hi, rfl, HR, HT⟩ := hrel
    by_cases hil : i < ms.length
    · have e1 : decide ((i : Int) < (ms.length : Int)) = true := decide_eq_true (by omega)
      obtain ⟨m, hm⟩ : ∃ m, ms[i]? = some m := ⟨_, List.getElem?_eq_getElem hil⟩
      have hm16 := h16 m (List.mem_of_getElem? hm)
      have hBX : Below X.heap.size X wr := HB3.out.trans (HT.out.below (n := X.heap.size) (fun j hj => by show X.heap.size ≤ j; rw [hj]; exact hkx) HB3.out.size)
      obtain ⟨g, o, hpe, _, hld⟩ := (HM1.out.below hBX).load h16 hm
      subst hpe
      have hL := hld wr (Below.refl _ _)
      have hnew : (wr.alloc (.cells zeroMark 23)).heap[wr.heap.size]? = some (.cells ((List.replicate 16 0).map byteV).toArray 23 (0, 0)) := World.alloc_heap_new _ _
      obtain ⟨a1, a2⟩ := mark_store hnew (m := m) (by simp) hm16
      have hkl := blk_lt HR.out
      have hR5 : CellAt kx 26 (addM x0 (ms.take i)) ((wr.alloc (.cells zeroMark 23)).setCells wr.heap.size 0 (m.map byteV)) := ((heap_setCells_ne _ _ _ _ _ (by omega)).trans (Below.heap_alloc _ _ _ hkl)).trans HR.out
      have hT5 : Touch (fun k => k = kx) w3 ((wr.alloc (.cells zeroMark 23)).setCells wr.heap.size 0 (m.map byteV)) := (HT.out.alloc _).setCells _ _ _ (.inr HT.out.size)
      have HT5 := Lib.hid hT5
      have hxok := addM_ok (ms.take i) x0 x0ok (fun y hy => h16 y (List.mem_of_mem_take hy))
      have hnx : (addM x0 (ms.take i)).add (Ce.of m) = addM x0 (ms.take (i + 1)) := by rw [← addM_snoc, List.take_add_one, hm]; rfl
      have HNX := Lib.hid hnx
      clear hnx hm hBX hld hT5 hnew
      go_wp2_with (first | (refine wpList_load_at rfl _ _ rfl rfl (hL) ?_) | (refine wpList_store_at rfl _ _ _ rfl rfl rfl (a1) ?_))
      clear hL a1
      have hsz5 : wr.heap.size < ((wr.alloc (.cells zeroMark 23)).setCells wr.heap.size 0 (m.map byteV)).heap.size := by rw [size_setCells]; simp
      generalize (wr.alloc (.cells zeroMark 23)).setCells wr.heap.size 0 (m.map byteV) = w5 at *
      have r1 := fun Y (hY : Below w5.heap.size w5 Y) => CellAt.whole (hR5.below hY (blk_lt hR5)) hxok.m
      have r2 := fun Y (hY : Below w5.heap.size w5 Y) => mark_whole ((hY.block _ hsz5).trans a2) hm16
      have r3 := fun Y => of_any m hm16 Y
      have r4 := fun Y => add_any (addM x0 (ms.take i)) (Ce.of m) hxok (Ce.of_ok hm16) Y
      rw [HNX.out] at r4
      unfold cellV at r3 r4
      unfold markV at r3
      obtain ⟨y, hy⟩ : ∃ y, addM x0 (ms.take (i + 1)) = y := ⟨_, rfl⟩
      have hyok : y.ok := hy ▸ addM_ok (ms.take (i + 1)) x0 x0ok (fun z hz => h16 z (List.mem_of_mem_take hz))
      rw [hy] at r4
      have R1 := Lib.hid r1
      have R2 := Lib.hid r2
      have R3 := Lib.hid r3
      have R4 := Lib.hid r4
      have HY := Lib.hid hy
      have HR5 := Lib.hid hR5
      clear r1 r2 r3 r4 hy hR5 a2
      refine wp_region_calm_tail 4 (by kernel_rfl) (by kernel_rfl) ?_
      simp only [List.take_succ_cons, List.take_zero, List.drop_succ_cons, List.drop_zero]
      repeat
        first
        | (apply calm_want
           · first | rfl | (go_simp; done)
           · intro X hX
             first
             | exact calm_load rfl rfl (R1.out X hX) hX
             | exact calm_load rfl rfl (R2.out X hX) hX
             | (go_simp
                first
                  | done
                  | rfl
                  | (refine ⟨trivial, ?_⟩; (first | with_reducible exact calls_calm hX (R3.out X) | with_reducible exact calls_calm hX (R4.out X)); done)
                  | ((first | with_reducible exact calls_calm hX (R3.out X) | with_reducible exact calls_calm hX (R4.out X)); done))
           intro K hK
           go_simp
           refine hK _ ?_
           clear hK K)
        | (apply calm_skip
           · first | rfl | (go_simp; done)
           intro K hK
           go_simp
           refine hK _ ?_
           clear hK K)
      refine wpQuiet_nil ?_
      intro X hX
      obtain ⟨s1, s2⟩ := (HR5.out.below hX (blk_lt HR5.out)).store (c := y) hxok.m hyok.m
      have hT6 : Touch (fun k => k = kx) w3 (X.setCells kx 0 y.vals) := (HT5.out.trans (Touch.of_below (M := fun k => k = kx) hX) (fun _ _ h => h)).setCells _ _ _ (.inl rfl)
      have S2 := Lib.hid s2
      have HT6 := Lib.hid hT6
      clear s2 hT6 R1 R2 R3 R4
      go_wp2_with (first | (refine wpList_store_at rfl _ _ _ rfl rfl rfl (s1) ?_))
      clear s1
      go_roundw
      case rel => exact ⟨i + 1, by omega, by go_num, by rw [HY.out]; exact S2, HT6⟩
      case measure => simp [intOf]; omega
    · have e1 : decide ((i : Int) < (ms.length : Int)) = false := decide_eq_false (by omega)
      have hR := HR.out
      rw [List.take_of_length_le (by omega)] at hR
      have HRA := Lib.hid hR
      clear hR HR
      go_wp2_with fail
      go_loopw [11, 42] (fun _ c wr => ∃ j : Nat, j ≤ ms.length ∧ c = .int .i64 (j : Int) ∧ Hid (CellAt kx 26 (addM x0 (ms.take (ms.length - j))) wr) ∧ Hid (Touch (fun k => k = kx) w3 wr)) (fun _ c _ => ms.length - (intOf c).toNat)
      case atStart => exact ⟨0, by omega, rfl, Lib.hid (by rw [Nat.sub_zero, List.take_length]; exact HRA.out), HT⟩
      case round =>
        obtain ⟨j, hj, rfl, HR, HT⟩ := hrel
        by_cases hjl : j < ms.length
        · have e1 : decide ((j : Int) < (ms.length : Int)) = true := decide_eq_true (by omega)
          obtain ⟨q, hq⟩ : ∃ q, q + j + 1 = ms.length := ⟨ms.length - 1 - j, by omega⟩
          obtain ⟨m, hm⟩ : ∃ m, ms[q]? = some m := ⟨_, List.getElem?_eq_getElem (by omega)⟩
          have hm16 := h16 m (List.mem_of_getElem? hm)
          have hxok := addM_ok (ms.take q) x0 x0ok (fun y hy => h16 y (List.mem_of_mem_take hy))
          have hR := HR.out
          rw [show ms.length - j = q + 1 by omega, List.take_add_one, hm, show (some m).toList = [m] from rfl, addM_snoc] at hR
          have hyok := Ce.add_ok hxok (Ce.of_ok hm16)
          have hsub := sub_add (addM x0 (ms.take q)) (Ce.of m) hxok (Ce.of_ok hm16)
          have hw1 : IntKind.i64.wrap ((ms.length : Int) - 1) = ((q + j : Nat) : Int) := by rw [IntKind.wrap_i64]; omega
          have hw2 : IntKind.i64.wrap (((q + j : Nat) : Int) - (j : Int)) = (q : Int) := by rw [IntKind.wrap_i64]; omega
          have hw3 : IntKind.i64.wrap (q : Int) = (q : Int) := by rw [IntKind.wrap_i64]; omega
          have hql : (q : Int) < (ms.length : Int) := by omega
          have hqn : q < ms.length := by omega
          have hBX : Below X.heap.size X wr := HB3.out.trans (HT.out.below (n := X.heap.size) (fun j hj => by show X.heap.size ≤ j; rw [hj]; exact hkx) HB3.out.size)
          obtain ⟨g, o, hpe, _, hld⟩ := (HM1.out.below hBX).load h16 hm
          subst hpe
          have r1 := fun Y (hY : Below wr.heap.size wr Y) => CellAt.whole (hR.below hY (blk_lt hR)) hyok.m
          have r2 := hld
          have r3 := fun Y => of_any m hm16 Y
          have r4 := fun Y => sub_any ((addM x0 (ms.take q)).add (Ce.of m)) (Ce.of m) hyok (Ce.of_ok hm16) Y
          rw [hsub] at r4
          unfold cellV at r3 r4
          unfold markV at r3
          have R1 := Lib.hid r1
          have R2 := Lib.hid r2
          have R3 := Lib.hid r3
          have R4 := Lib.hid r4
          have HRR := Lib.hid hR
          have HQ := Lib.hid hq
          clear r1 r2 r3 r4 hR hld hm hsub hq HR hBX
          go_wp2_with fail
          refine wp_region_calm_tail 11 (by kernel_rfl) (by kernel_rfl) ?_
          simp only [List.take_succ_cons, List.take_zero, List.drop_succ_cons, List.drop_zero]
          repeat
            first
            | (apply calm_want
               · first | rfl | (go_simp; done)
               · intro X hX
                 first
                 | exact calm_load rfl rfl (R1.out X hX) hX
                 | exact calm_load rfl rfl (R2.out X hX) hX
                 | (go_simp
                    first
                      | done
                      | rfl
                      | (refine ⟨trivial, ?_⟩; (first | with_reducible exact calls_calm hX (R3.out X) | with_reducible exact calls_calm hX (R4.out X)); done)
                      | ((first | with_reducible exact calls_calm hX (R3.out X) | with_reducible exact calls_calm hX (R4.out X)); done))
               intro K hK
               go_simp
               refine hK _ ?_
               clear hK K)
            | (apply calm_skip
               · first | rfl | (go_simp; done)
               intro K hK
               go_simp
               refine hK _ ?_
               clear hK K)
          refine wpQuiet_nil ?_
          intro X hX
          obtain ⟨s1, s2⟩ := (HRR.out.below hX (blk_lt HRR.out)).store (c := addM x0 (ms.take q)) hyok.m hxok.m
          have hT6 : Touch (fun k => k = kx) w3 (X.setCells kx 0 (addM x0 (ms.take q)).vals) := (HT.out.trans (Touch.of_below (M := fun k => k = kx) hX) (fun _ _ h => h)).setCells _ _ _ (.inl rfl)
          have S2 := Lib.hid s2
          have HT6 := Lib.hid hT6
          clear s2 hT6 R1 R2 R3 R4 hw1 hw2 hw3
          go_wp2_with (first | (refine wpList_store_at rfl _ _ _ rfl rfl rfl (s1) ?_))
          clear s1
          go_roundw
          case rel => exact ⟨j + 1, by have := HQ.out; omega, by go_num, by rw [show ms.length - (j + 1) = q by have := HQ.out; omega]; exact S2, HT6⟩
          case measure => simp [intOf]; have := HQ.out; omega
        · have e1 : decide ((j : Int) < (ms.length : Int)) = false := decide_eq_false (by omega)
          have hR := HR.out
          rw [show ms.length - j = 0 by omega, List.take_zero, show addM x0 [] = x0 from rfl] at hR
          have hBX : Below X.heap.size X wr := HB3.out.trans (HT.out.below (n := X.heap.size) (fun j hj => by show X.heap.size ≤ j; rw [hj]; exact hkx) HB3.out.size)
          have hBw : Below w.heap.size w wr := HX.out.trans (hBX.mono HX.out.size)
          have k0 : CellAt b0 26 A wr := HT.out.keep J0.out c0
          have k1 : CellAt b1 26 B wr := HT.out.keep J1.out c1
          have k2 : CellAt b2 26 C wr := HT.out.keep J2.out c2
          have k3 := HT.out.keep J3.out c3
          have lA := fun Y (hY : Below wr.heap.size wr Y) => CellAt.whole (k0.below hY (blk_lt k0)) hA0.m
          have lB := fun Y (hY : Below wr.heap.size wr Y) => CellAt.whole (k1.below hY (blk_lt k1)) hB0.m
          have lC := fun Y (hY : Below wr.heap.size wr Y) => CellAt.whole (k2.below hY (blk_lt k2)) hC0.m
          have lX := fun Y (hY : Below wr.heap.size wr Y) => CellAt.whole (hR.below hY (blk_lt hR)) x0ok.m
          have lM := fun Y (hY : Below wr.heap.size wr Y) => mark_whole ((hY.block _ (blk_lt k3)).trans k3) hM
          have abok := Ce.add_ok hA0 hB0
          have bcok := Ce.add_ok hB0 hC0
          have abcok := Ce.add_ok abok hC0
          have a1 := fun Y => add_any A B hA0 hB0 Y
          have a2 := fun Y => add_any B A hB0 hA0 Y
          have a3 := fun Y => add_any (A.add B) C abok hC0 Y
          have a4 := fun Y => add_any B C hB0 hC0 Y
          have a5 := fun Y => add_any A (B.add C) hA0 bcok Y
          have a6 := fun Y => sub_any (A.add B) B abok hB0 Y
          have a7 := fun Y => sub_any A A hA0 hA0 Y
          have a8 := fun Y => of_any M hM Y
          have a9 := fun Y => pure_any x0 x0ok Y
          have a10 := fun Y => sub_any Ce.zero x0 Ce.zero_ok x0ok Y
          have a11 := fun Y => pure_any (Ce.zero.sub x0) (Ce.sub_ok Ce.zero_ok x0ok) Y
          rw [Ce.add_comm B A] at a2
          rw [← Ce.add_assoc A B C] at a5
          rw [sub_add A B hA0 hB0] at a6
          rw [sub_self A hA0] at a7
          rw [HX0.out] at a8
          rw [← HX0.out, pure_of, HX0.out] at a9
          rw [← HX0.out, pure_neg M hM, HX0.out] at a11
          have bz : ∀ X, (Instr.build 26 #[]).run Try.prog X = .ok (.agg Ce.zero.vals.toArray) X := fun X => by kernel_rfl
          have ec : ∀ (c : Ce) (x y : Operand), c.ok → ∀ X, (do eqGuard .eql 26 x y (.agg c.vals.toArray) (.agg c.vals.toArray); binOp .eql 26 (.agg c.vals.toArray) (.agg c.vals.toArray) : Sem Value).run Try.prog X = .ok (.bool true) X := fun c x y hc X => by
            have h := eqv_cell c c hc.m hc.m x y X
            rw [Ce.eq_self] at h
            exact h
          unfold cellV at a1 a2 a3 a4 a5 a6 a7 a8 a9 a10 a11
          unfold markV at a8
          generalize Ce.zero.sub x0 = nx at *
          generalize (A.add B).add C = abc at *
          generalize A.add B = ab at *
          generalize B.add C = bc at *
          have A1 := Lib.hid a1
          have A2 := Lib.hid a2
          have A3 := Lib.hid a3
          have A4 := Lib.hid a4
          have A5 := Lib.hid a5
          have A6 := Lib.hid a6
          have A7 := Lib.hid a7
          have A8 := Lib.hid a8
          have A9 := Lib.hid a9
          have A10 := Lib.hid a10
          have A11 := Lib.hid a11
          have EC := Lib.hid ec
          have BZ := Lib.hid bz
          have LA := Lib.hid lA
          have LB := Lib.hid lB
          have LC := Lib.hid lC
          have LX := Lib.hid lX
          have LM := Lib.hid lM
          have HBW2 := Lib.hid hBw
          clear a1 a2 a3 a4 a5 a6 a7 a8 a9 a10 a11 ec bz lA lB lC lX lM hBw hBX k0 k1 k2 k3 hR HR J0 J1 J2 J3
          go_wp2_with fail
          refine wp_region_calm_lit (by kernel_rfl) (by kernel_rfl) ?_
          repeat
            first
            | (apply calm_want
               · first | rfl | (go_simp; done)
               · intro X hX
                 first
                 | exact calm_load rfl rfl (LA.out X hX) hX
                 | exact calm_load rfl rfl (LB.out X hX) hX
                 | exact calm_load rfl rfl (LC.out X hX) hX
                 | exact calm_load rfl rfl (LX.out X hX) hX
                 | exact calm_load rfl rfl (LM.out X hX) hX
                 | exact calm_build rfl (by go_simp) (BZ.out X) hX
                 | exact calm_bin rfl rfl rfl (EC.out ab _ _ abok X) hX
                 | exact calm_bin rfl rfl rfl (EC.out abc _ _ abcok X) hX
                 | exact calm_bin rfl rfl rfl (EC.out A _ _ hA0 X) hX
                 | exact calm_bin rfl rfl rfl (EC.out x0 _ _ x0ok X) hX
                 | exact calm_bin rfl rfl rfl (EC.out Ce.zero _ _ Ce.zero_ok X) hX
                 | (go_simp
                    first
                      | done
                      | rfl
                      | (refine ⟨trivial, ?_⟩; (first | with_reducible exact calls_calm hX (A1.out X) | with_reducible exact calls_calm hX (A2.out X) | with_reducible exact calls_calm hX (A3.out X) | with_reducible exact calls_calm hX (A4.out X) | with_reducible exact calls_calm hX (A5.out X) | with_reducible exact calls_calm hX (A6.out X) | with_reducible exact calls_calm hX (A7.out X) | with_reducible exact calls_calm hX (A8.out X) | with_reducible exact calls_calm hX (A9.out X) | with_reducible exact calls_calm hX (A10.out X) | with_reducible exact calls_calm hX (A11.out X)); done)
                      | ((first | with_reducible exact calls_calm hX (A1.out X) | with_reducible exact calls_calm hX (A2.out X) | with_reducible exact calls_calm hX (A3.out X) | with_reducible exact calls_calm hX (A4.out X) | with_reducible exact calls_calm hX (A5.out X) | with_reducible exact calls_calm hX (A6.out X) | with_reducible exact calls_calm hX (A7.out X) | with_reducible exact calls_calm hX (A8.out X) | with_reducible exact calls_calm hX (A9.out X) | with_reducible exact calls_calm hX (A10.out X) | with_reducible exact calls_calm hX (A11.out X)); done))
               intro K hK
               go_simp
               refine hK _ ?_
               clear hK K)
            | (apply calm_skip
               · first | rfl | (go_simp; done)
               intro K hK
               go_simp
               refine hK _ ?_
               clear hK K)
          refine wpQuiet_nil ?_
          intro X hX
          have hfin := HBW2.out.trans (hX.mono HBW2.out.size)
          go_wp2_with fail
          go_ret
          exact ⟨rfl, hfin⟩
end Go.Proofs.Ytkdbbdlkfpjdfaa
