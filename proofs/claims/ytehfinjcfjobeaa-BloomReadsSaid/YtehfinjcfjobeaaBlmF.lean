/- Filters: the iterator of what is lacking, and the law's list of it.
   Conditions: those that each theorem names. -/
import Derived.Test.YtehfinjcfjobeaaBlmE
import Derived.Test.YtehfinjcfjobeaaCloneM
namespace Go.Proofs.Ytehfinjcfjobeaa
set_option maxRecDepth 100000
set_option linter.unusedVariables false
set_option linter.unusedSimpArgs false
open Go.RowKit Go.Shelf Go.Rg
attribute [local go_sem] markV
/-- What the iterator has hold of. -/
structure LackAt (lo : Nat) (fl : List UInt8) (ms : List Mk) (bl bk kf : Nat) (vf vm : Value) (W : World) : Prop where
  b1 : Boxed W bl 22 vm
  b2 : Boxed W bk 29 (ptr kf)
  f : FltAt kf vf fl W
  m : MarksAt W vm (vals ms)
  l1 : lo ≤ bl
  l2 : lo ≤ bk
  l3 : lo ≤ kf
  l4 : ∀ g, vf.ownBlock = some g → lo ≤ g
  l5 : ∀ g, vm.ownBlock = some g → lo ≤ g
  l6 : ∀ g, vm.ownBlock = some g → g < W.heap.size
theorem lacks_nil (p : Option Addr) (n c : Nat) (w : World) : Calls Try.prog 30 #[.pointer none, .slice p n c] w fun e w' => e = .returned (.func (.func 45) #[] #[]) ∧ Below w.heap.size w w' := by
  go_enter Try.func30, Try.ntmps30
  go_wp2_with fail
  refine bodyPost_ret (results_tmp rfl _ _ _) rfl ?_
  exact ⟨rfl, (Below.refl _ _).alloc (Nat.le_refl _) _⟩
set_option maxHeartbeats 2000000 in
theorem lacks_any (k : Nat) (v vm : Value) (fl : List UInt8) (ms : List Mk) (w : World) (h : FltAt k v fl w) (hm : MarksAt w vm (vals ms)) (hl : fl.length ≤ 1000000) (hn : ms.length ≤ 1000000) :
    Calls Try.prog 30 #[ptr k, vm] w fun e w' => ∃ bl bk kf vf vm', e = .returned (.func (.func 47) #[] #[ptr bl, ptr bk]) ∧ LackAt w.heap.size fl ms bl bk kf vf vm' w' ∧ Below w.heap.size w w' := by
  have HM := Lib.hid hm
  obtain ⟨p, cap, rfl, hcap, _⟩ := hm
  rw [vals_length] at hcap HM
  rw [vals_length]
  go_enter Try.func30, Try.ntmps30
  go_wp2_with fail
  obtain ⟨w1, hw1⟩ : ∃ w1, w1 = w.alloc (.cells #[.slice p ms.length cap] 22) := ⟨_, rfl⟩
  rw [← hw1]
  have hb : Boxed w1 w.heap.size 22 (.slice p ms.length cap) := by rw [hw1]; exact World.alloc_heap_new _ _
  have hB : Below w.heap.size w w1 := by rw [hw1]; exact (Below.refl _ _).alloc (Nat.le_refl _) _
  have hz : w1.heap.size = w.heap.size + 1 := by rw [hw1]; simp
  have h1 := h.below hB
  have m1 := HM.out.below hB
  have ck := fun X (hX : Below w1.heap.size w1 X) => (h1.below hX).cell
  have cb := fun X (hX : Below w1.heap.size w1 X) => Boxed.cell ((hX.block _ hb.lt).trans hb)
  have k1 := fun X (hX : Below w1.heap.size w1 X) => bytes_clone v fl X (h1.below hX).2.at (by omega)
  have k2 := fun X (hX : Below w1.heap.size w1 X) => marks_clone _ (vals ms) X (m1.below hX) (vals16 ms) (by rw [vals_length]; omega)
  have CK := Lib.hid ck
  have CB := Lib.hid cb
  have K1 := Lib.hid k1
  have K2 := Lib.hid k2
  have HB := Lib.hid hB
  have HBX := Lib.hid hb
  have HZ := Lib.hid hz
  clear ck cb k1 k2 hB hb hw1 h h1 m1 hz
  refine wp_region_grow_tail 10 [[], [0], [1], [2], [3], [4], [5], [], [7], [], [9, 6], [8]] (by kernel_rfl) (by kernel_rfl) (by kernel_rfl) (by decide) (by kernel_rfl) ?_
  simp only [List.take_succ_cons, List.take_zero]
  iterate 4
    (apply steps_fx
     · intro vs X hC hB hA
       try simp only [List.cons_append, List.nil_append, List.getD_cons_zero, List.getD_cons_succ, List.forall_mem_cons, List.not_mem_nil, false_implies, implies_true, and_true] at hA
       simp only [List.getD_cons_zero, List.getD_cons_succ, putL, dstOf, List.foldl_nil, List.foldl_cons, List.getElem?_toArray, List.getElem?_cons_zero, List.getElem?_cons_succ, Option.bind_some, Act.put, List.setIfInBounds_toArray, List.set_cons_zero, List.set_cons_succ]
       try simp only [hA]
       have ad0 := CK.out X hC
       go_wp2_with fail
       first
       | exact ⟨_, rfl, Below.refl _ _, rfl⟩
     simp only [List.cons_append, List.nil_append])
  refine steps_pr ((fun v X => OwnB X v fl ∧ ∀ g, v.ownBlock = some g → w1.heap.size ≤ g)) (by intro j v X Y _ _ _ _ _ hG h; exact ⟨h.1.kept (fun g hg => hG.block g (h.1.lt hg)), h.2⟩) ?_ ?_
  · intro vs X hC hB hA
    try simp only [List.cons_append, List.nil_append, List.getD_cons_zero, List.getD_cons_succ, List.forall_mem_cons, List.not_mem_nil, false_implies, implies_true, and_true] at hA
    simp only [List.getD_cons_zero, List.getD_cons_succ, putL, dstOf, List.foldl_nil, List.foldl_cons, List.getElem?_toArray, List.getElem?_cons_zero, List.getElem?_cons_succ, Option.bind_some, Act.put, List.setIfInBounds_toArray, List.set_cons_zero, List.set_cons_succ]
    try simp only [hA]
    go_wp2_with fail
    refine (K1.out X hC).mono ?_
    rintro e w' ⟨v', rfl, ho, hf, hB⟩
    go_wp2_with fail
    exact ⟨_, rfl, hB, ho, fun g hg => Nat.le_trans hC.size (hf g hg)⟩
  simp only [List.cons_append, List.nil_append]
  refine steps_pr ((fun v X => ∃ u, v = .agg #[u] ∧ OwnB X u fl ∧ ∀ g, u.ownBlock = some g → w1.heap.size ≤ g)) (by intro j v X Y _ _ _ _ _ hG h; exact (by obtain ⟨u, h1, h2, h3⟩ := h; exact ⟨u, h1, h2.kept (fun g hg => hG.block g (h2.lt hg)), h3⟩)) ?_ ?_
  · intro vs X hC hB hA
    try simp only [List.cons_append, List.nil_append, List.getD_cons_zero, List.getD_cons_succ, List.forall_mem_cons, List.not_mem_nil, false_implies, implies_true, and_true] at hA
    simp only [List.getD_cons_zero, List.getD_cons_succ, putL, dstOf, List.foldl_nil, List.foldl_cons, List.getElem?_toArray, List.getElem?_cons_zero, List.getElem?_cons_succ, Option.bind_some, Act.put, List.setIfInBounds_toArray, List.set_cons_zero, List.set_cons_succ]
    try simp only [hA]
    obtain ⟨ho, hf⟩ := hA
    obtain ⟨p', c', e, _, _, _⟩ := ho.shape
    rw [e] at ho hf ⊢
    go_wp2_with fail
    exact ⟨_, rfl, Below.refl _ _, _, rfl, ho, hf⟩
  simp only [List.cons_append, List.nil_append]
  refine steps_pr ((fun v X => ∃ kf u, v = ptr kf ∧ FltAt kf u fl X ∧ w1.heap.size ≤ kf ∧ ∀ g, u.ownBlock = some g → w1.heap.size ≤ g)) (by intro j v X Y _ _ _ _ _ hG h; exact (by obtain ⟨kf, u, h1, h2, h3, h4⟩ := h; exact ⟨kf, u, h1, h2.below hG, h3, h4⟩)) ?_ ?_
  · intro vs X hC hB hA
    try simp only [List.cons_append, List.nil_append, List.getD_cons_zero, List.getD_cons_succ, List.forall_mem_cons, List.not_mem_nil, false_implies, implies_true, and_true] at hA
    simp only [List.getD_cons_zero, List.getD_cons_succ, putL, dstOf, List.foldl_nil, List.foldl_cons, List.getElem?_toArray, List.getElem?_cons_zero, List.getElem?_cons_succ, Option.bind_some, Act.put, List.setIfInBounds_toArray, List.set_cons_zero, List.set_cons_succ]
    try simp only [hA]
    obtain ⟨u, hv, ho, hf⟩ := hA
    obtain ⟨p', c', e, _, _, _⟩ := ho.shape
    rw [hv]
    rw [e] at ho hf ⊢
    go_wp2_with fail
    exact ⟨_, rfl, (Below.refl _ _).alloc (Nat.le_refl _) _, _, _, rfl, ⟨World.alloc_heap_new _ _, ho.kept (fun g hg => Below.heap_alloc _ _ _ (ho.lt hg))⟩, hC.size, hf⟩
  simp only [List.cons_append, List.nil_append]
  iterate 1
    (apply steps_fx
     · intro vs X hC hB hA
       try simp only [List.cons_append, List.nil_append, List.getD_cons_zero, List.getD_cons_succ, List.forall_mem_cons, List.not_mem_nil, false_implies, implies_true, and_true] at hA
       simp only [List.getD_cons_zero, List.getD_cons_succ, putL, dstOf, List.foldl_nil, List.foldl_cons, List.getElem?_toArray, List.getElem?_cons_zero, List.getElem?_cons_succ, Option.bind_some, Act.put, List.setIfInBounds_toArray, List.set_cons_zero, List.set_cons_succ]
       try simp only [hA]
       have ad0 := CB.out X hC
       go_wp2_with fail
       first
       | exact ⟨_, rfl, Below.refl _ _, rfl⟩
     simp only [List.cons_append, List.nil_append])
  refine steps_pr ((fun v X => OwnV 24 16 X v (rawM (vals ms)) ∧ ∀ g, v.ownBlock = some g → w1.heap.size ≤ g)) (by intro j v X Y _ _ _ _ _ hG h; exact ⟨h.1.below hG, h.2⟩) ?_ ?_
  · intro vs X hC hB hA
    try simp only [List.cons_append, List.nil_append, List.getD_cons_zero, List.getD_cons_succ, List.forall_mem_cons, List.not_mem_nil, false_implies, implies_true, and_true] at hA
    simp only [List.getD_cons_zero, List.getD_cons_succ, putL, dstOf, List.foldl_nil, List.foldl_cons, List.getElem?_toArray, List.getElem?_cons_zero, List.getElem?_cons_succ, Option.bind_some, Act.put, List.setIfInBounds_toArray, List.set_cons_zero, List.set_cons_succ]
    try simp only [hA]
    go_wp2_with fail
    refine (K2.out X hC).mono ?_
    rintro e w' ⟨v', rfl, ho, hf, hB⟩
    go_wp2_with fail
    exact ⟨_, rfl, hB, ho, fun g hg => Nat.le_trans hC.size (hf g hg)⟩
  simp only [List.cons_append, List.nil_append]
  refine steps_pr ((fun v X => ∃ b, v = ptr b ∧ Boxed X b 29 (.pointer none) ∧ w1.heap.size ≤ b)) (by intro j v X Y _ _ _ _ _ hG h; exact (by obtain ⟨b, h1, h2, h3⟩ := h; exact ⟨b, h1, (hG.block _ h2.lt).trans h2, h3⟩)) ?_ ?_
  · intro vs X hC hB hA
    try simp only [List.cons_append, List.nil_append, List.getD_cons_zero, List.getD_cons_succ, List.forall_mem_cons, List.not_mem_nil, false_implies, implies_true, and_true] at hA
    simp only [List.getD_cons_zero, List.getD_cons_succ, putL, dstOf, List.foldl_nil, List.foldl_cons, List.getElem?_toArray, List.getElem?_cons_zero, List.getElem?_cons_succ, Option.bind_some, Act.put, List.setIfInBounds_toArray, List.set_cons_zero, List.set_cons_succ]
    try simp only [hA]
    go_wp2_with fail
    exact ⟨_, rfl, (Below.refl _ _).alloc (Nat.le_refl _) _, _, rfl, World.alloc_heap_new _ _, hC.size⟩
  simp only [List.cons_append, List.nil_append]
  refine steps_nil ?_
  intro vs X hC hA
  simp only [List.drop_succ_cons, List.drop_zero]
  rw [show List.range 10 = [0, 1, 2, 3, 4, 5, 6, 7, 8, 9] from rfl]
  simp only [List.getD_cons_zero, List.getD_cons_succ, putL, dstOf, List.foldl_nil, List.foldl_cons, List.getElem?_toArray, List.getElem?_cons_zero, List.getElem?_cons_succ, Option.bind_some, Act.put, List.setIfInBounds_toArray, List.set_cons_zero, List.set_cons_succ]
  obtain ⟨kf, vf, e6, hf, hf1, hf2⟩ := hA 6 (by decide)
  obtain ⟨ho, ho1⟩ := hA 8 (by decide)
  obtain ⟨bk, e9, hk, hk1⟩ := hA 9 (by decide)
  obtain ⟨p8, c8, e8, _, _, _⟩ := ho.shape
  rw [rawM_length, vals_length] at e8
  rw [e6, e9, e8]
  rw [e8] at ho ho1
  have hz := HZ.out
  have hXz := hC.size
  have bX := (hC.block _ HBX.out.lt).trans HBX.out
  have hne : bk ≠ w.heap.size := by omega
  have hlt := hk.lt
  have s1 : Boxed (X.setCell ⟨bk, 0, none⟩ (ptr kf)) bk 29 (ptr kf) := hk.set _
  have s2 : Boxed (X.setCell ⟨bk, 0, none⟩ (ptr kf)) w.heap.size 22 (.slice p ms.length cap) := Boxed.other (B' := bk) bX (fun e => hne e.symm) _
  have s3 : Boxed ((X.setCell ⟨bk, 0, none⟩ (ptr kf)).setCell ⟨w.heap.size, 0, none⟩ (.slice p8 ms.length c8)) w.heap.size 22 (.slice p8 ms.length c8) := s2.set _
  have s4 : Boxed ((X.setCell ⟨bk, 0, none⟩ (ptr kf)).setCell ⟨w.heap.size, 0, none⟩ (.slice p8 ms.length c8)) bk 29 (ptr kf) := Boxed.other s1 hne _
  have tY : ∀ g, g ≠ bk → g ≠ w.heap.size → ((X.setCell ⟨bk, 0, none⟩ (ptr kf)).setCell ⟨w.heap.size, 0, none⟩ (.slice p8 ms.length c8)).heap[g]? = X.heap[g]? := fun g h1 h2 => (Below.heap_setCell _ ⟨w.heap.size, 0, none⟩ _ g h2).trans (Below.heap_setCell _ ⟨bk, 0, none⟩ _ g h1)
  have n1 : ∀ g, vf.ownBlock = some g → g ≠ bk := fun g hg e => by
    obtain ⟨c, hc⟩ := row_block hf.2 hg
    subst e
    have := hk
    unfold Boxed at this
    rw [hc] at this
    injection this with this
    injection this with _ ht
    exact absurd ht (by decide)
  have n2 : ∀ g, (Value.slice p8 ms.length c8).ownBlock = some g → g ≠ bk := fun g hg e => by
    obtain ⟨c, hc⟩ := row_block ho.2 hg
    subst e
    have := hk
    unfold Boxed at this
    rw [hc] at this
    injection this with this
    injection this with _ ht
    exact absurd ht (by decide)
  have n3 : kf ≠ bk := fun e => by
    have := hk
    unfold Boxed at this
    rw [← e, hf.1] at this
    injection this with this
    injection this with _ ht
    exact absurd ht (by decide)
  have F : FltAt kf vf fl _ := hf.kept (tY kf n3 (by omega)) (fun g hg => tY g (n1 g hg) (by have := hf2 g hg; omega))
  have O : OwnV 24 16 _ (.slice p8 ms.length c8) (rawM (vals ms)) := ho.kept (fun g hg => tY g (n2 g hg) (by have := ho1 g hg; omega))
  have BB : Below w.heap.size w ((X.setCell ⟨bk, 0, none⟩ (ptr kf)).setCell ⟨w.heap.size, 0, none⟩ (.slice p8 ms.length c8)) := ((HB.out.trans (hC.mono HB.out.size)).setCell (p := ⟨bk, 0, none⟩) (by dsimp only; omega) _).setCell (p := ⟨w.heap.size, 0, none⟩) (Nat.le_refl _) _
  have L : LackAt w.heap.size fl ms w.heap.size bk kf vf (.slice p8 ms.length c8) _ := ⟨s3, s4, F, marksAt_iff.2 O.at, Nat.le_refl _, by omega, by omega, fun g hg => by have := hf2 g hg; omega, fun g hg => by have := ho1 g hg; omega, fun g hg => O.lt hg⟩
  have c1 := hk.cell
  have f1 := hk.frozen
  have c2 := s2.cell
  have f2 := s2.frozen
  have LL := Lib.hid L
  have BBB := Lib.hid BB
  clear L BB O F n1 n2 n3 tY s1 s2 s3 s4 bX hk hf ho hA hf1 hf2 ho1 e8 hz hC
  go_wp2_with fail
  go_ret
  exact ⟨_, _, _, _, _, rfl, LL.out, BBB.out⟩
end Go.Proofs.Ytehfinjcfjobeaa
