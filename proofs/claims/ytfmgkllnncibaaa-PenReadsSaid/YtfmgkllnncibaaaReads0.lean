/- The walk of the law PenReads.
   Conditions: those that the theorem names. -/
import Derived.Test.YtfmgkllnncibaaaR
namespace Go.Proofs.Ytfmgkllnncibaaa
set_option linter.unusedVariables false
set_option linter.unusedSimpArgs false
open Go.RowKit Go.Rg
attribute [local go_sem] Rg.q_add Rg.q_add' Rg.q_xor Rg.q_or Rg.q_and ba_app
/-- What stands while such operations run. -/
def PC (w : World) (n ob : Nat) (q : InOp) (X : World) : Prop := Below w.heap.size w X ∧ X.heap[ob]? = some (.cells #[.int .i64 q.kind, .int .i64 q.n, .int .u64 (U q.u)] 55 (0, 0)) ∧ n ≤ X.heap.size
theorem PC.keep {w : World} {n ob : Nat} {q : InOp} {X Y : World} {eb xb i1 i2 j : Nat} (h : PC w n ob q X) (hG : PG eb xb i1 i2 j X Y) (hwe : w.heap.size ≤ eb) (hwx : w.heap.size ≤ xb) (h1 : ob ≠ eb) (h2 : ob ≠ xb) (h3 : ob < n) : PC w n ob q Y :=
  ⟨h.1.trans (hG.low hwe hwx h.1.size), (Touch.block hG ob (by have := h.2.2; omega) (by rintro (⟨a, b⟩ | ⟨a, b⟩) <;> omega)).trans h.2.1, Nat.le_trans h.2.2 hG.size⟩
theorem PC.cells {w : World} {n ob : Nat} {q : InOp} {X : World} (h : PC w n ob q X) : X.cell? ⟨ob, 1, none⟩ = some (.int .i64 q.n) ∧ X.cell? ⟨ob, 2, none⟩ = some (.int .u64 (U q.u)) :=
  ⟨by simp [World.cell?, h.2.1], by simp [World.cell?, h.2.1]⟩
theorem Ey.fin_len (x : Ey) : x.fin.s.length ≤ x.s.length := by
  unfold Ey.fin; split
  · exact Nat.le_refl _
  · exact Ey.fail_len _ _
set_option maxRecDepth 100000 in
set_option maxHeartbeats 4000000 in
theorem reads_walk (p : Option Addr) (cap : Nat) (b : List UInt8) (v : Value) (os : List InOp) (w : World) (hb : BytesAt w (.slice p b.length cap) b) (hr : InsAt w v os) :
    Calls Try.prog 5 #[.slice p b.length cap, v] w fun e w' => e = .returned (.bool true) ∧ Below w.heap.size w w' := by
  obtain ⟨p2, cap2, rfl, hf⟩ := hr
  have HF := Lib.hid hf
  have HB := Lib.hid hb
  clear hf hb
  go_enter Try.func5, Try.ntmps5
  go_wp2_with fail
  refine (first_any w).mono ?_
  rintro e w1 ⟨rfl, hB1⟩
  by_cases h1 : 3000 < b.length
  · have e1 : decide ((3000 : Int) < (b.length : Int)) = true := decide_eq_true (by omega)
    go_wp2_with fail
    go_ret
    exact ⟨rfl, hB1⟩
  have e1 : decide ((3000 : Int) < (b.length : Int)) = false := decide_eq_false (by omega)
  by_cases h2 : 60 < os.length
  · have e2 : decide ((60 : Int) < (os.length : Int)) = true := decide_eq_true (by omega)
    go_wp2_with fail
    go_ret
    exact ⟨rfl, hB1⟩
  have e2 : decide ((60 : Int) < (os.length : Int)) = false := decide_eq_false (by omega)
  have HB1 := Lib.hid (HB.out.below hB1)
  go_wp2_with fail
  refine wp_region_vals [[], [0], [], [2], [3], [4], [1], [5]] (fun X => Below w1.heap.size w1 X) (fun X Y => Below X.heap.size X Y) (by kernel_rfl) (by kernel_rfl) (by kernel_rfl) (Below.drew (Below.refl _ _)) (fun X Y hC hG => hC.trans (hG.mono hC.size)) ?_
  iterate 1
    (apply vals_fx
     · intro vs X hX hA
       try simp only [List.getD_cons_zero, List.getD_cons_succ, List.forall_mem_cons, List.not_mem_nil, false_implies, implies_true, and_true] at hA
       simp only [List.getD_cons_zero, List.getD_cons_succ, putL, dstOf, List.foldl_nil, List.foldl_cons, List.getElem?_toArray, List.getElem?_cons_zero, List.getElem?_cons_succ, Option.bind_some, Act.put, List.setIfInBounds_toArray, List.set_cons_zero, List.set_cons_succ]
       try simp only [hA]
       go_wp2_with fail
       exact ⟨_, rfl, Below.refl _ _, rfl⟩
     simp only [List.cons_append, List.nil_append])
  apply vals_pr (fun v X => ∃ eb, v = ptr eb ∧ w1.heap.size ≤ eb ∧ EyeAt eb ⟨b, 0⟩ X) (by rintro v X Y _ hG ⟨eb, e, h, hE⟩; exact ⟨eb, e, h, hE.below hG⟩)
  · intro vs X hX hA
    try simp only [List.getD_cons_zero, List.getD_cons_succ, List.forall_mem_cons, List.not_mem_nil, false_implies, implies_true, and_true] at hA
    simp only [List.getD_cons_zero, List.getD_cons_succ, putL, dstOf, List.foldl_nil, List.foldl_cons, List.getElem?_toArray, List.getElem?_cons_zero, List.getElem?_cons_succ, Option.bind_some, Act.put, List.setIfInBounds_toArray, List.set_cons_zero, List.set_cons_succ]
    try simp only [hA]
    go_wp2_with fail
    refine (read_any _ b X (HB1.out.below hX) (by omega)).mono ?_
    rintro e w2 ⟨eb, rfl, leb, ey, hB2⟩
    go_wp2_with fail
    exact ⟨_, rfl, hB2, eb, rfl, Nat.le_trans hX.size leb, ey⟩
  simp only [List.cons_append, List.nil_append]
  iterate 1
    (apply vals_fx
     · intro vs X hX hA
       try simp only [List.getD_cons_zero, List.getD_cons_succ, List.forall_mem_cons, List.not_mem_nil, false_implies, implies_true, and_true] at hA
       simp only [List.getD_cons_zero, List.getD_cons_succ, putL, dstOf, List.foldl_nil, List.foldl_cons, List.getElem?_toArray, List.getElem?_cons_zero, List.getElem?_cons_succ, Option.bind_some, Act.put, List.setIfInBounds_toArray, List.set_cons_zero, List.set_cons_succ]
       try simp only [hA]
       go_wp2_with fail
       exact ⟨_, rfl, Below.refl _ _, rfl⟩
     simp only [List.cons_append, List.nil_append])
  apply vals_fx
  · intro vs X hX hA
    try simp only [List.getD_cons_zero, List.getD_cons_succ, List.forall_mem_cons, List.not_mem_nil, false_implies, implies_true, and_true] at hA
    simp only [List.getD_cons_zero, List.getD_cons_succ, putL, dstOf, List.foldl_nil, List.foldl_cons, List.getElem?_toArray, List.getElem?_cons_zero, List.getElem?_cons_succ, Option.bind_some, Act.put, List.setIfInBounds_toArray, List.set_cons_zero, List.set_cons_succ]
    try simp only [hA]
    have hcv := conv_bytes (HB1.out.below hX)
    go_wp2_with fail
    exact ⟨_, rfl, Below.refl _ _, rfl⟩
  simp only [List.cons_append, List.nil_append]
  iterate 1
    (apply vals_fx
     · intro vs X hX hA
       try simp only [List.getD_cons_zero, List.getD_cons_succ, List.forall_mem_cons, List.not_mem_nil, false_implies, implies_true, and_true] at hA
       simp only [List.getD_cons_zero, List.getD_cons_succ, putL, dstOf, List.foldl_nil, List.foldl_cons, List.getElem?_toArray, List.getElem?_cons_zero, List.getElem?_cons_succ, Option.bind_some, Act.put, List.setIfInBounds_toArray, List.set_cons_zero, List.set_cons_succ]
       try simp only [hA]
       go_wp2_with fail
       exact ⟨_, rfl, Below.refl _ _, rfl⟩
     simp only [List.cons_append, List.nil_append])
  apply vals_pr (fun v X => ∃ xb, v = ptr xb ∧ w1.heap.size ≤ xb ∧ RefAt xb ⟨b, 0⟩ X) (by rintro v X Y _ hG ⟨eb, e, h, hE⟩; exact ⟨eb, e, h, hE.below hG⟩)
  · intro vs X hX hA
    try simp only [List.getD_cons_zero, List.getD_cons_succ, List.forall_mem_cons, List.not_mem_nil, false_implies, implies_true, and_true] at hA
    simp only [List.getD_cons_zero, List.getD_cons_succ, putL, dstOf, List.foldl_nil, List.foldl_cons, List.getElem?_toArray, List.getElem?_cons_zero, List.getElem?_cons_succ, Option.bind_some, Act.put, List.setIfInBounds_toArray, List.set_cons_zero, List.set_cons_succ]
    try simp only [hA]
    go_wp2_with fail
    exact ⟨_, rfl, (Below.refl _ _).alloc (Nat.le_refl _) _, _, rfl, hX.size, World.alloc_heap_new _ _⟩
  simp only [List.cons_append, List.nil_append]
  apply vals_pr (fun v X => ∃ eb, v = ptr eb ∧ w1.heap.size ≤ eb ∧ EyeAt eb ⟨b, 0⟩ X) (by rintro v X Y _ hG ⟨eb, e, h, hE⟩; exact ⟨eb, e, h, hE.below hG⟩)
  · intro vs X hX hA
    try simp only [List.getD_cons_zero, List.getD_cons_succ, List.forall_mem_cons, List.not_mem_nil, false_implies, implies_true, and_true] at hA
    simp only [List.getD_cons_zero, List.getD_cons_succ, putL, dstOf, List.foldl_nil, List.foldl_cons, List.getElem?_toArray, List.getElem?_cons_zero, List.getElem?_cons_succ, Option.bind_some, Act.put, List.setIfInBounds_toArray, List.set_cons_zero, List.set_cons_succ]
    try simp only [hA]
    obtain ⟨eb, e3, leb, ey⟩ := hA
    rw [e3]
    go_wp2_with fail
    exact ⟨_, rfl, Below.refl _ _, eb, rfl, leb, ey⟩
  simp only [List.cons_append, List.nil_append]
  apply vals_pr (fun v X => ∃ xb, v = ptr xb ∧ w1.heap.size ≤ xb ∧ RefAt xb ⟨b, 0⟩ X) (by rintro v X Y _ hG ⟨eb, e, h, hE⟩; exact ⟨eb, e, h, hE.below hG⟩)
  · intro vs X hX hA
    try simp only [List.getD_cons_zero, List.getD_cons_succ, List.forall_mem_cons, List.not_mem_nil, false_implies, implies_true, and_true] at hA
    simp only [List.getD_cons_zero, List.getD_cons_succ, putL, dstOf, List.foldl_nil, List.foldl_cons, List.getElem?_toArray, List.getElem?_cons_zero, List.getElem?_cons_succ, Option.bind_some, Act.put, List.setIfInBounds_toArray, List.set_cons_zero, List.set_cons_succ]
    try simp only [hA]
    obtain ⟨eb, e3, leb, ey⟩ := hA
    rw [e3]
    go_wp2_with fail
    exact ⟨_, rfl, Below.refl _ _, eb, rfl, leb, ey⟩
  simp only [List.cons_append, List.nil_append]
  refine vals_nil ?_
  intro vs X hX hA
  rw [(fun (l : List Oper) (h : l.length = 8) => (by rw [h]; rfl : List.range l.length = [0, 1, 2, 3, 4, 5, 6, 7])) _ rfl]
  simp only [List.getD_cons_zero, List.getD_cons_succ, putL, dstOf, List.foldl_nil, List.foldl_cons, List.getElem?_toArray, List.getElem?_cons_zero, List.getElem?_cons_succ, Option.bind_some, Act.put, List.setIfInBounds_toArray, List.set_cons_zero, List.set_cons_succ]
  obtain ⟨eb, u6, leb, ey⟩ : ∃ eb, vs 6 = ptr eb ∧ w1.heap.size ≤ eb ∧ EyeAt eb ⟨b, 0⟩ X := hA 6 (by decide)
  obtain ⟨xb, u7, lxb, ex⟩ : ∃ xb, vs 7 = ptr xb ∧ w1.heap.size ≤ xb ∧ RefAt xb ⟨b, 0⟩ X := hA 7 (by decide)
  rw [u6, u7]
  have hne : eb ≠ xb := by rintro rfl; exact eye_not_ref ey ex
  have hBX := hB1.trans (hX.mono hB1.size)
  have hwe : w.heap.size ≤ eb := Nat.le_trans hB1.size leb
  have hwx : w.heap.size ≤ xb := Nat.le_trans hB1.size lxb
  have EY := Lib.hid ey
  have EX := Lib.hid ex
  clear ey ex u6 u7 hA hX leb lxb
  go_wp2_with fail
  go_loopw [30] (fun c wr => ∃ i : Nat, i ≤ os.length ∧ c = .int .i64 i ∧ Below w.heap.size w wr ∧ ∃ y : Ey, y.s.length ≤ 1000000000 ∧ Hid (EyeAt eb y wr) ∧ Hid (RefAt xb y wr)) (fun c _ => os.length - (intOf c).toNat)
  case atStart => exact ⟨0, by omega, rfl, hBX, ⟨b, 0⟩, by show b.length ≤ _; omega, EY, EX⟩
  case round =>
    obtain ⟨i, hi, rfl, hB, y, hyl, HE, HR⟩ := hrel
    clear EY EX hBX HB1 HB
    by_cases hil : i < os.length
    · have e4 : decide (i < os.length) = true := decide_eq_true hil
      obtain ⟨g, o, q, rfl, hg, hq, c0, c1, c2, hk, hn⟩ := HF.out i hil
      have k0 := (hB.cell (p := ⟨g, o + i * 3, none⟩) hg).trans c0
      have k1 := (hB.cell (p := ⟨g, o + i * 3 + 1, none⟩) hg).trans c1
      have k2 := (hB.cell (p := ⟨g, o + i * 3 + 2, none⟩) hg).trans c2
      clear c0 c1 c2
      have hebx := HE.out.lt
      have hxbx : xb < wr.heap.size := blk_lt HR.out
      by_cases t0 : ((IntKind.u64.wrap q.kind).tmod 6 == 0) = true
      · go_wp2_with fail
        have hA4 : Below wr.heap.size wr (wr.alloc (.cells #[.int .i64 q.kind, .int .i64 q.n, .int .u64 (U q.u)] 55)) := (Below.refl _ _).alloc (Nat.le_refl _) _
        have hop : (wr.alloc (.cells #[.int .i64 q.kind, .int .i64 q.n, .int .u64 (U q.u)] 55)).heap[wr.heap.size]? = some (.cells #[.int .i64 q.kind, .int .i64 q.n, .int .u64 (U q.u)] 55 (0, 0)) := World.alloc_heap_new _ _
        have HE4 := Lib.hid (HE.out.below hA4)
        have HR4 := Lib.hid (HR.out.below hA4)
        have hB4 := hB.trans (hA4.mono hB.size)
        have hlt4 := blk_lt hop
        generalize wr.alloc (.cells #[.int .i64 q.kind, .int .i64 q.n, .int .u64 (U q.u)] 55) = w4 at *
        clear hA4 HE HR
        obtain ⟨z, hz⟩ : ∃ z, UInt64.ofNat (y.number q.u).1 = z := ⟨_, rfl⟩
        refine wp_region_steps [[], [], [1], [0, 2], [], [], [5], [4, 6], [3, 7], [8]] (PC w w4.heap.size wr.heap.size q) (PB eb xb y y 3 7) (PG eb xb 3 7) (by kernel_rfl) (by kernel_rfl) (by kernel_rfl) (by decide) ⟨hB4.drew, hop, Nat.le_refl _⟩ (fun i => ⟨fun _ => HE4.out.below (Below.drew (Below.refl _ _)), fun _ => HR4.out.below (Below.drew (Below.refl _ _))⟩) (fun j X Y _ hC _ hG => hC.keep hG hwe hwx (by omega) (by omega) (by omega)) (fun i j X Y _ _ hij _ _ hj hG hb => PB.keep hne hij hj hG hb) ?_
        iterate 2
          (apply steps_fx
           · intro vs X hC hB hA
             try simp only [List.getD_cons_zero, List.getD_cons_succ, List.forall_mem_cons, List.not_mem_nil, false_implies, implies_true, and_true] at hA
             simp only [List.getD_cons_zero, List.getD_cons_succ, putL, dstOf, List.foldl_nil, List.foldl_cons, List.getElem?_toArray, List.getElem?_cons_zero, List.getElem?_cons_succ, Option.bind_some, Act.put, List.setIfInBounds_toArray, List.set_cons_zero, List.set_cons_succ]
             try simp only [hA]
             go_wp2_with fail
             first | exact ⟨_, rfl, World.grownBy.refl _ _, rfl⟩ | exact ⟨_, rfl, Touch.refl _ _, rfl⟩
           simp only [List.cons_append, List.nil_append])
        apply steps_fx
        · intro vs X hC hB hA
          try simp only [List.getD_cons_zero, List.getD_cons_succ, List.forall_mem_cons, List.not_mem_nil, false_implies, implies_true, and_true] at hA
          simp only [List.getD_cons_zero, List.getD_cons_succ, putL, dstOf, List.foldl_nil, List.foldl_cons, List.getElem?_toArray, List.getElem?_cons_zero, List.getElem?_cons_succ, Option.bind_some, Act.put, List.setIfInBounds_toArray, List.set_cons_zero, List.set_cons_succ]
          try simp only [hA]
          have hm := hC.cells.2
          go_wp2_with fail
          exact ⟨_, rfl, Touch.refl _ _, rfl⟩
        simp only [List.cons_append, List.nil_append]
        apply steps_pr (fun v X => v = .int .u64 (U z) ∧ EyeAt eb (y.number q.u).2 X) (fun j v X Y _ hj _ _ hb hG h => ⟨h.1, hG.keepE hne hj hb h.2⟩)
        · intro vs X hC hB hA
          try simp only [List.getD_cons_zero, List.getD_cons_succ, List.forall_mem_cons, List.not_mem_nil, false_implies, implies_true, and_true] at hA
          simp only [List.getD_cons_zero, List.getD_cons_succ, putL, dstOf, List.foldl_nil, List.foldl_cons, List.getElem?_toArray, List.getElem?_cons_zero, List.getElem?_cons_succ, Option.bind_some, Act.put, List.setIfInBounds_toArray, List.set_cons_zero, List.set_cons_succ]
          try simp only [hA]
          go_wp2_with fail
          refine (eye_number eb y q.u X (hB.1 rfl) hyl).mono ?_
          rintro e w5 ⟨rfl, q1, t5⟩
          rw [hz]
          go_wp2_with fail
          exact ⟨_, rfl, PG.eye rfl t5, rfl, q1⟩
        simp only [List.cons_append, List.nil_append]
        iterate 2
          (apply steps_fx
           · intro vs X hC hB hA
             try simp only [List.getD_cons_zero, List.getD_cons_succ, List.forall_mem_cons, List.not_mem_nil, false_implies, implies_true, and_true] at hA
             simp only [List.getD_cons_zero, List.getD_cons_succ, putL, dstOf, List.foldl_nil, List.foldl_cons, List.getElem?_toArray, List.getElem?_cons_zero, List.getElem?_cons_succ, Option.bind_some, Act.put, List.setIfInBounds_toArray, List.set_cons_zero, List.set_cons_succ]
             try simp only [hA]
             go_wp2_with fail
             first | exact ⟨_, rfl, World.grownBy.refl _ _, rfl⟩ | exact ⟨_, rfl, Touch.refl _ _, rfl⟩
           simp only [List.cons_append, List.nil_append])
        apply steps_fx
        · intro vs X hC hB hA
          try simp only [List.getD_cons_zero, List.getD_cons_succ, List.forall_mem_cons, List.not_mem_nil, false_implies, implies_true, and_true] at hA
          simp only [List.getD_cons_zero, List.getD_cons_succ, putL, dstOf, List.foldl_nil, List.foldl_cons, List.getElem?_toArray, List.getElem?_cons_zero, List.getElem?_cons_succ, Option.bind_some, Act.put, List.setIfInBounds_toArray, List.set_cons_zero, List.set_cons_succ]
          try simp only [hA]
          have hm := hC.cells.2
          go_wp2_with fail
          exact ⟨_, rfl, Touch.refl _ _, rfl⟩
        simp only [List.cons_append, List.nil_append]
        apply steps_pr (fun v X => v = .int .u64 (U z) ∧ RefAt xb (y.number q.u).2 X) (fun j v X Y _ hj _ _ hb hG h => ⟨h.1, hG.keepR hne hj h.2⟩)
        · intro vs X hC hB hA
          try simp only [List.getD_cons_zero, List.getD_cons_succ, List.forall_mem_cons, List.not_mem_nil, false_implies, implies_true, and_true] at hA
          simp only [List.getD_cons_zero, List.getD_cons_succ, putL, dstOf, List.foldl_nil, List.foldl_cons, List.getElem?_toArray, List.getElem?_cons_zero, List.getElem?_cons_succ, Option.bind_some, Act.put, List.setIfInBounds_toArray, List.set_cons_zero, List.set_cons_succ]
          try simp only [hA]
          go_wp2_with fail
          refine (ref_num xb y q.u X (hB.2 rfl) hyl).mono ?_
          rintro e w5 ⟨rfl, q1, t5⟩
          rw [hz]
          go_wp2_with fail
          exact ⟨_, rfl, PG.ref rfl t5, rfl, q1⟩
        simp only [List.cons_append, List.nil_append]
        apply steps_fx (.bool true)
        · intro vs X hC hB hA
          try simp only [List.getD_cons_zero, List.getD_cons_succ, List.forall_mem_cons, List.not_mem_nil, false_implies, implies_true, and_true] at hA
          simp only [List.getD_cons_zero, List.getD_cons_succ, putL, dstOf, List.foldl_nil, List.foldl_cons, List.getElem?_toArray, List.getElem?_cons_zero, List.getElem?_cons_succ, Option.bind_some, Act.put, List.setIfInBounds_toArray, List.set_cons_zero, List.set_cons_succ]
          try simp only [hA]
          obtain ⟨⟨g1, _⟩, ⟨g2, _⟩⟩ := hA
          try rw [g1, g2]
          go_wp2_with fail
          exact ⟨_, rfl, Touch.refl _ _, rfl⟩
        simp only [List.cons_append, List.nil_append]
        iterate 1
          (apply steps_fx
           · intro vs X hC hB hA
             try simp only [List.getD_cons_zero, List.getD_cons_succ, List.forall_mem_cons, List.not_mem_nil, false_implies, implies_true, and_true] at hA
             simp only [List.getD_cons_zero, List.getD_cons_succ, putL, dstOf, List.foldl_nil, List.foldl_cons, List.getElem?_toArray, List.getElem?_cons_zero, List.getElem?_cons_succ, Option.bind_some, Act.put, List.setIfInBounds_toArray, List.set_cons_zero, List.set_cons_succ]
             try simp only [hA]
             go_wp2_with fail
             first | exact ⟨_, rfl, World.grownBy.refl _ _, rfl⟩ | exact ⟨_, rfl, Touch.refl _ _, rfl⟩
           simp only [List.cons_append, List.nil_append])
        refine steps_nil ?_
        intro vs X hC hA
        rw [(fun (l : List Oper) (h : l.length = 10) => (by rw [h]; rfl : List.range l.length = [0, 1, 2, 3, 4, 5, 6, 7, 8, 9])) _ rfl]
        simp only [List.getD_cons_zero, List.getD_cons_succ, putL, dstOf, List.foldl_nil, List.foldl_cons, List.getElem?_toArray, List.getElem?_cons_zero, List.getElem?_cons_succ, Option.bind_some, Act.put, List.setIfInBounds_toArray, List.set_cons_zero, List.set_cons_succ]
        obtain ⟨_, HE5⟩ : vs 3 = .int .u64 (U z) ∧ EyeAt eb (y.number q.u).2 X := hA 3 (by decide)
        obtain ⟨_, HR5⟩ : vs 7 = .int .u64 (U z) ∧ RefAt xb (y.number q.u).2 X := hA 7 (by decide)
        have u9 : vs 9 = .bool true := hA 9 (by decide)
        rw [u9]
        have HE6 := Lib.hid HE5
        have HR6 := Lib.hid HR5
        have hB6 := hC.1
        have hl6 := Nat.le_trans (Ey.number_len y q.u) hyl
        clear u9 hA hC HE5 HR5 hB4 HE4 HR4 hop hlt4 hz
        generalize (y.number q.u).2 = y6 at *
        have hcc : ∀ Z, Below X.heap.size X Z → Z.cell? ⟨xb, 0, none⟩ = some (str y6.s) ∧ Z.cell? ⟨xb, 1, none⟩ = some (.int .i64 y6.e) := fun Z hX => ⟨(HR6.out.below hX).cells.1, (HR6.out.below hX).cells.2.1⟩
        go_wp2_with fail
        refine wp_region_calm_lit (by kernel_rfl) (by kernel_rfl) ?_
        repeat
          first
          | (apply calm_want
             · first | rfl | (go_simp; done)
             · intro X hX
               go_simp
               first
                 | done
                 | rfl
                 | (refine ⟨trivial, ?_⟩; (first | exact calls_calm_same hX (err_any eb y6 X (HE6.out.below hX)) | exact calls_calm_same hX (left_any eb y6 X (HE6.out.below hX))); done)
                 | ((first | exact calls_calm_same hX (err_any eb y6 X (HE6.out.below hX)) | exact calls_calm_same hX (left_any eb y6 X (HE6.out.below hX))); done)
             intro K hK
             go_simp
             refine hK _ ?_
             clear hK K)
          | (apply calm_skip
             · first | rfl | (go_simp; done)
             intro K hK
             go_simp
             refine hK _ ?_
             clear hK K)
        refine wpQuiet_nil ?_
        intro X hX
        have HE9 := Lib.hid (HE6.out.below hX)
        have HR9 := Lib.hid (HR6.out.below hX)
        have hB9 := hB6.trans (hX.mono hB6.size)
        clear hcc hX HE6 HR6 hB6
        go_wp2_with fail
        exact ⟨⟨i + 1, by omega, by go_num, hB9, y6, hl6, HE9, HR9⟩, by simp [intOf]; omega⟩
      replace t0 := (Bool.not_eq_true _).mp t0
      by_cases t1 : ((IntKind.u64.wrap q.kind).tmod 6 == 1) = true
      · go_wp2_with fail
        have hA4 : Below wr.heap.size wr (wr.alloc (.cells #[.int .i64 q.kind, .int .i64 q.n, .int .u64 (U q.u)] 55)) := (Below.refl _ _).alloc (Nat.le_refl _) _
        have hop : (wr.alloc (.cells #[.int .i64 q.kind, .int .i64 q.n, .int .u64 (U q.u)] 55)).heap[wr.heap.size]? = some (.cells #[.int .i64 q.kind, .int .i64 q.n, .int .u64 (U q.u)] 55 (0, 0)) := World.alloc_heap_new _ _
        have HE4 := Lib.hid (HE.out.below hA4)
        have HR4 := Lib.hid (HR.out.below hA4)
        have hB4 := hB.trans (hA4.mono hB.size)
        have hlt4 := blk_lt hop
        generalize wr.alloc (.cells #[.int .i64 q.kind, .int .i64 q.n, .int .u64 (U q.u)] 55) = w4 at *
        clear hA4 HE HR
        obtain ⟨mx, hmx⟩ : ∃ mx : UInt64, mx = 18446744073709551615 := ⟨_, rfl⟩
        have hm : (18446744073709551615 : Int) = U mx := by rw [hmx]; rfl
        have hsg := eye_signed eb y w4 HE4.out hyl
        rw [← hmx] at hsg
        clear hmx
        obtain ⟨z, hz⟩ : ∃ z, z = UInt64.ofNat (y.number mx).1 := ⟨_, rfl⟩
        rw [← hz] at hsg
        refine hsg.mono ?_
        rintro e w5 ⟨rfl, q1, t5⟩
        have r5 := HR4.out.keep t5 (show ¬ (xb = eb) from fun e => hne e.symm)
        have HE5 := Lib.hid q1
        have HR5 := Lib.hid r5
        have hB5 := hB4.trans (t5.below (by rintro j rfl; exact hwe) hB4.size)
        clear q1 t5 r5 hB4 HE4 HR4 hsg
        go_wp2_with fail
        try rw [hm]
        clear hm
        refine (ref_num xb y mx w5 HR5.out hyl).mono ?_
        rw [← hz]
        rintro e w6 ⟨rfl, q1, t6⟩
        have HE6 := Lib.hid (HE5.out.other HR5.out t6 hne)
        have HR6 := Lib.hid q1
        have hB6 := hB5.trans (t6.below (by rintro j rfl; exact hwx) hB5.size)
        have hl6 := Nat.le_trans (Ey.number_len y mx) hyl
        clear q1 t6 hB5 HE5 HR5 hz
        generalize (y.number mx).2 = y6 at *
        go_wp2_with fail
        refine (ref_zag z w6).mono ?_
        rintro e w7 ⟨rfl, rfl⟩
        have hcc : ∀ Z, Below w6.heap.size w6 Z → Z.cell? ⟨xb, 0, none⟩ = some (str y6.s) ∧ Z.cell? ⟨xb, 1, none⟩ = some (.int .i64 y6.e) := fun Z hX => ⟨(HR6.out.below hX).cells.1, (HR6.out.below hX).cells.2.1⟩
        go_wp2_with fail
        refine wp_region_calm_lit (by kernel_rfl) (by kernel_rfl) ?_
        repeat
          first
          | (apply calm_want
             · first | rfl | (go_simp; done)
             · intro X hX
               go_simp
               first
                 | done
                 | rfl
                 | (refine ⟨trivial, ?_⟩; (first | exact calls_calm_same hX (err_any eb y6 X (HE6.out.below hX)) | exact calls_calm_same hX (left_any eb y6 X (HE6.out.below hX))); done)
                 | ((first | exact calls_calm_same hX (err_any eb y6 X (HE6.out.below hX)) | exact calls_calm_same hX (left_any eb y6 X (HE6.out.below hX))); done)
             intro K hK
             go_simp
             refine hK _ ?_
             clear hK K)
          | (apply calm_skip
             · first | rfl | (go_simp; done)
             intro K hK
             go_simp
             refine hK _ ?_
             clear hK K)
        refine wpQuiet_nil ?_
        intro X hX
        have HE9 := Lib.hid (HE6.out.below hX)
        have HR9 := Lib.hid (HR6.out.below hX)
        have hB9 := hB6.trans (hX.mono hB6.size)
        clear hcc hX HE6 HR6 hB6
        go_wp2_with fail
        exact ⟨⟨i + 1, by omega, by go_num, hB9, y6, hl6, HE9, HR9⟩, by simp [intOf]; omega⟩
      replace t1 := (Bool.not_eq_true _).mp t1
      by_cases t2 : ((IntKind.u64.wrap q.kind).tmod 6 == 2) = true
      · go_wp2_with fail
        have hA4 : Below wr.heap.size wr (wr.alloc (.cells #[.int .i64 q.kind, .int .i64 q.n, .int .u64 (U q.u)] 55)) := (Below.refl _ _).alloc (Nat.le_refl _) _
        have hop : (wr.alloc (.cells #[.int .i64 q.kind, .int .i64 q.n, .int .u64 (U q.u)] 55)).heap[wr.heap.size]? = some (.cells #[.int .i64 q.kind, .int .i64 q.n, .int .u64 (U q.u)] 55 (0, 0)) := World.alloc_heap_new _ _
        have HE4 := Lib.hid (HE.out.below hA4)
        have HR4 := Lib.hid (HR.out.below hA4)
        have hB4 := hB.trans (hA4.mono hB.size)
        have hlt4 := blk_lt hop
        generalize wr.alloc (.cells #[.int .i64 q.kind, .int .i64 q.n, .int .u64 (U q.u)] 55) = w4 at *
        clear hA4 HE HR
        refine wp_region_steps [[], [], [1], [0, 2], [3], [], [], [6], [5, 7], [4, 8], [9]] (PC w w4.heap.size wr.heap.size q) (PB eb xb y y 3 8) (PG eb xb 3 8) (by kernel_rfl) (by kernel_rfl) (by kernel_rfl) (by decide) ⟨hB4.drew, hop, Nat.le_refl _⟩ (fun i => ⟨fun _ => HE4.out.below (Below.drew (Below.refl _ _)), fun _ => HR4.out.below (Below.drew (Below.refl _ _))⟩) (fun j X Y _ hC _ hG => hC.keep hG hwe hwx (by omega) (by omega) (by omega)) (fun i j X Y _ _ hij _ _ hj hG hb => PB.keep hne hij hj hG hb) ?_
        iterate 2
          (apply steps_fx
           · intro vs X hC hB hA
             try simp only [List.getD_cons_zero, List.getD_cons_succ, List.forall_mem_cons, List.not_mem_nil, false_implies, implies_true, and_true] at hA
             simp only [List.getD_cons_zero, List.getD_cons_succ, putL, dstOf, List.foldl_nil, List.foldl_cons, List.getElem?_toArray, List.getElem?_cons_zero, List.getElem?_cons_succ, Option.bind_some, Act.put, List.setIfInBounds_toArray, List.set_cons_zero, List.set_cons_succ]
             try simp only [hA]
             go_wp2_with fail
             first | exact ⟨_, rfl, World.grownBy.refl _ _, rfl⟩ | exact ⟨_, rfl, Touch.refl _ _, rfl⟩
           simp only [List.cons_append, List.nil_append])
        apply steps_fx
        · intro vs X hC hB hA
          try simp only [List.getD_cons_zero, List.getD_cons_succ, List.forall_mem_cons, List.not_mem_nil, false_implies, implies_true, and_true] at hA
          simp only [List.getD_cons_zero, List.getD_cons_succ, putL, dstOf, List.foldl_nil, List.foldl_cons, List.getElem?_toArray, List.getElem?_cons_zero, List.getElem?_cons_succ, Option.bind_some, Act.put, List.setIfInBounds_toArray, List.set_cons_zero, List.set_cons_succ]
          try simp only [hA]
          have hm := hC.cells.1
          go_wp2_with fail
          exact ⟨_, rfl, Touch.refl _ _, rfl⟩
        simp only [List.cons_append, List.nil_append]
        apply steps_pr (fun v X => OwnB X v (y.text q.n).1 ∧ (∀ k, v.ownBlock = some k → w4.heap.size ≤ k) ∧ EyeAt eb (y.text q.n).2 X) (fun j v X Y _ hj _ _ hb hG h => ⟨hG.keepO hj h.1 (fun k hk => Nat.lt_of_lt_of_le (by omega) (h.2.1 k hk)), h.2.1, hG.keepE hne hj hb h.2.2⟩)
        · intro vs X hC hB hA
          try simp only [List.getD_cons_zero, List.getD_cons_succ, List.forall_mem_cons, List.not_mem_nil, false_implies, implies_true, and_true] at hA
          simp only [List.getD_cons_zero, List.getD_cons_succ, putL, dstOf, List.foldl_nil, List.foldl_cons, List.getElem?_toArray, List.getElem?_cons_zero, List.getElem?_cons_succ, Option.bind_some, Act.put, List.setIfInBounds_toArray, List.set_cons_zero, List.set_cons_succ]
          try simp only [hA]
          go_wp2_with fail
          refine (eye_text eb y q.n X (hB.1 rfl) hyl hn).mono ?_
          rintro e w5 ⟨v5, rfl, q1, q2, q3, t5⟩
          go_wp2_with fail
          exact ⟨_, rfl, PG.eye rfl t5, q1, fun k hk => Nat.le_trans hC.2.2 (q2 k hk), q3⟩
        simp only [List.cons_append, List.nil_append]
        apply steps_fx (str (y.text q.n).1)
        · intro vs X hC hB hA
          try simp only [List.getD_cons_zero, List.getD_cons_succ, List.forall_mem_cons, List.not_mem_nil, false_implies, implies_true, and_true] at hA
          simp only [List.getD_cons_zero, List.getD_cons_succ, putL, dstOf, List.foldl_nil, List.foldl_cons, List.getElem?_toArray, List.getElem?_cons_zero, List.getElem?_cons_succ, Option.bind_some, Act.put, List.setIfInBounds_toArray, List.set_cons_zero, List.set_cons_succ]
          try simp only [hA]
          have hcv := conv_bytes hA.1.at
          go_wp2_with fail
          exact ⟨_, rfl, Touch.refl _ _, rfl⟩
        simp only [List.cons_append, List.nil_append]
        iterate 2
          (apply steps_fx
           · intro vs X hC hB hA
             try simp only [List.getD_cons_zero, List.getD_cons_succ, List.forall_mem_cons, List.not_mem_nil, false_implies, implies_true, and_true] at hA
             simp only [List.getD_cons_zero, List.getD_cons_succ, putL, dstOf, List.foldl_nil, List.foldl_cons, List.getElem?_toArray, List.getElem?_cons_zero, List.getElem?_cons_succ, Option.bind_some, Act.put, List.setIfInBounds_toArray, List.set_cons_zero, List.set_cons_succ]
             try simp only [hA]
             go_wp2_with fail
             first | exact ⟨_, rfl, World.grownBy.refl _ _, rfl⟩ | exact ⟨_, rfl, Touch.refl _ _, rfl⟩
           simp only [List.cons_append, List.nil_append])
        apply steps_fx
        · intro vs X hC hB hA
          try simp only [List.getD_cons_zero, List.getD_cons_succ, List.forall_mem_cons, List.not_mem_nil, false_implies, implies_true, and_true] at hA
          simp only [List.getD_cons_zero, List.getD_cons_succ, putL, dstOf, List.foldl_nil, List.foldl_cons, List.getElem?_toArray, List.getElem?_cons_zero, List.getElem?_cons_succ, Option.bind_some, Act.put, List.setIfInBounds_toArray, List.set_cons_zero, List.set_cons_succ]
          try simp only [hA]
          have hm := hC.cells.1
          go_wp2_with fail
          exact ⟨_, rfl, Touch.refl _ _, rfl⟩
        simp only [List.cons_append, List.nil_append]
        apply steps_pr (fun v X => v = str (y.text q.n).1 ∧ RefAt xb (y.text q.n).2 X) (fun j v X Y _ hj _ _ hb hG h => ⟨h.1, hG.keepR hne hj h.2⟩)
        · intro vs X hC hB hA
          try simp only [List.getD_cons_zero, List.getD_cons_succ, List.forall_mem_cons, List.not_mem_nil, false_implies, implies_true, and_true] at hA
          simp only [List.getD_cons_zero, List.getD_cons_succ, putL, dstOf, List.foldl_nil, List.foldl_cons, List.getElem?_toArray, List.getElem?_cons_zero, List.getElem?_cons_succ, Option.bind_some, Act.put, List.setIfInBounds_toArray, List.set_cons_zero, List.set_cons_succ]
          try simp only [hA]
          go_wp2_with fail
          refine (ref_text_eye xb y q.n X (hB.2 rfl) hyl hn).mono ?_
          rintro e w5 ⟨rfl, q1, t5⟩
          go_wp2_with fail
          exact ⟨_, rfl, PG.ref rfl t5, rfl, q1⟩
        simp only [List.cons_append, List.nil_append]
        apply steps_fx (.bool true)
        · intro vs X hC hB hA
          try simp only [List.getD_cons_zero, List.getD_cons_succ, List.forall_mem_cons, List.not_mem_nil, false_implies, implies_true, and_true] at hA
          simp only [List.getD_cons_zero, List.getD_cons_succ, putL, dstOf, List.foldl_nil, List.foldl_cons, List.getElem?_toArray, List.getElem?_cons_zero, List.getElem?_cons_succ, Option.bind_some, Act.put, List.setIfInBounds_toArray, List.set_cons_zero, List.set_cons_succ]
          try simp only [hA]
          obtain ⟨g1, ⟨g2, _⟩⟩ := hA
          try rw [g1, g2]
          go_wp2_with fail
          exact ⟨_, rfl, Touch.refl _ _, rfl⟩
        simp only [List.cons_append, List.nil_append]
        iterate 1
          (apply steps_fx
           · intro vs X hC hB hA
             try simp only [List.getD_cons_zero, List.getD_cons_succ, List.forall_mem_cons, List.not_mem_nil, false_implies, implies_true, and_true] at hA
             simp only [List.getD_cons_zero, List.getD_cons_succ, putL, dstOf, List.foldl_nil, List.foldl_cons, List.getElem?_toArray, List.getElem?_cons_zero, List.getElem?_cons_succ, Option.bind_some, Act.put, List.setIfInBounds_toArray, List.set_cons_zero, List.set_cons_succ]
             try simp only [hA]
             go_wp2_with fail
             first | exact ⟨_, rfl, World.grownBy.refl _ _, rfl⟩ | exact ⟨_, rfl, Touch.refl _ _, rfl⟩
           simp only [List.cons_append, List.nil_append])
        refine steps_nil ?_
        intro vs X hC hA
        rw [(fun (l : List Oper) (h : l.length = 11) => (by rw [h]; rfl : List.range l.length = [0, 1, 2, 3, 4, 5, 6, 7, 8, 9, 10])) _ rfl]
        simp only [List.getD_cons_zero, List.getD_cons_succ, putL, dstOf, List.foldl_nil, List.foldl_cons, List.getElem?_toArray, List.getElem?_cons_zero, List.getElem?_cons_succ, Option.bind_some, Act.put, List.setIfInBounds_toArray, List.set_cons_zero, List.set_cons_succ]
        obtain ⟨_, _, HE5⟩ : OwnB X (vs 3) (y.text q.n).1 ∧ (∀ k, (vs 3).ownBlock = some k → w4.heap.size ≤ k) ∧ EyeAt eb (y.text q.n).2 X := hA 3 (by decide)
        obtain ⟨_, HR5⟩ : vs 8 = str (y.text q.n).1 ∧ RefAt xb (y.text q.n).2 X := hA 8 (by decide)
        have u9 : vs 10 = .bool true := hA 10 (by decide)
        rw [u9]
        have HE6 := Lib.hid HE5
        have HR6 := Lib.hid HR5
        have hB6 := hC.1
        have hl6 := Nat.le_trans (Ey.text_len y q.n).2 hyl
        clear u9 hA hC HE5 HR5 hB4 HE4 HR4 hop hlt4
        generalize (y.text q.n).2 = y6 at *
        have hcc : ∀ Z, Below X.heap.size X Z → Z.cell? ⟨xb, 0, none⟩ = some (str y6.s) ∧ Z.cell? ⟨xb, 1, none⟩ = some (.int .i64 y6.e) := fun Z hX => ⟨(HR6.out.below hX).cells.1, (HR6.out.below hX).cells.2.1⟩
        go_wp2_with fail
        refine wp_region_calm_lit (by kernel_rfl) (by kernel_rfl) ?_
        repeat
          first
          | (apply calm_want
             · first | rfl | (go_simp; done)
             · intro X hX
               go_simp
               first
                 | done
                 | rfl
                 | (refine ⟨trivial, ?_⟩; (first | exact calls_calm_same hX (err_any eb y6 X (HE6.out.below hX)) | exact calls_calm_same hX (left_any eb y6 X (HE6.out.below hX))); done)
                 | ((first | exact calls_calm_same hX (err_any eb y6 X (HE6.out.below hX)) | exact calls_calm_same hX (left_any eb y6 X (HE6.out.below hX))); done)
             intro K hK
             go_simp
             refine hK _ ?_
             clear hK K)
          | (apply calm_skip
             · first | rfl | (go_simp; done)
             intro K hK
             go_simp
             refine hK _ ?_
             clear hK K)
        refine wpQuiet_nil ?_
        intro X hX
        have HE9 := Lib.hid (HE6.out.below hX)
        have HR9 := Lib.hid (HR6.out.below hX)
        have hB9 := hB6.trans (hX.mono hB6.size)
        clear hcc hX HE6 HR6 hB6
        go_wp2_with fail
        exact ⟨⟨i + 1, by omega, by go_num, hB9, y6, hl6, HE9, HR9⟩, by simp [intOf]; omega⟩
      replace t2 := (Bool.not_eq_true _).mp t2
      by_cases t3 : ((IntKind.u64.wrap q.kind).tmod 6 == 3) = true
      · go_wp2_with fail
        have hA4 : Below wr.heap.size wr (wr.alloc (.cells #[.int .i64 q.kind, .int .i64 q.n, .int .u64 (U q.u)] 55)) := (Below.refl _ _).alloc (Nat.le_refl _) _
        have hop : (wr.alloc (.cells #[.int .i64 q.kind, .int .i64 q.n, .int .u64 (U q.u)] 55)).heap[wr.heap.size]? = some (.cells #[.int .i64 q.kind, .int .i64 q.n, .int .u64 (U q.u)] 55 (0, 0)) := World.alloc_heap_new _ _
        have HE4 := Lib.hid (HE.out.below hA4)
        have HR4 := Lib.hid (HR.out.below hA4)
        have hB4 := hB.trans (hA4.mono hB.size)
        have hlt4 := blk_lt hop
        generalize wr.alloc (.cells #[.int .i64 q.kind, .int .i64 q.n, .int .u64 (U q.u)] 55) = w4 at *
        clear hA4 HE HR
        refine wp_region_steps [[], [], [1], [0, 2], [3], [], [], [6], [5, 7], [4, 8], [9]] (PC w w4.heap.size wr.heap.size q) (PB eb xb y y 3 8) (PG eb xb 3 8) (by kernel_rfl) (by kernel_rfl) (by kernel_rfl) (by decide) ⟨hB4.drew, hop, Nat.le_refl _⟩ (fun i => ⟨fun _ => HE4.out.below (Below.drew (Below.refl _ _)), fun _ => HR4.out.below (Below.drew (Below.refl _ _))⟩) (fun j X Y _ hC _ hG => hC.keep hG hwe hwx (by omega) (by omega) (by omega)) (fun i j X Y _ _ hij _ _ hj hG hb => PB.keep hne hij hj hG hb) ?_
        iterate 2
          (apply steps_fx
           · intro vs X hC hB hA
             try simp only [List.getD_cons_zero, List.getD_cons_succ, List.forall_mem_cons, List.not_mem_nil, false_implies, implies_true, and_true] at hA
             simp only [List.getD_cons_zero, List.getD_cons_succ, putL, dstOf, List.foldl_nil, List.foldl_cons, List.getElem?_toArray, List.getElem?_cons_zero, List.getElem?_cons_succ, Option.bind_some, Act.put, List.setIfInBounds_toArray, List.set_cons_zero, List.set_cons_succ]
             try simp only [hA]
             go_wp2_with fail
             first | exact ⟨_, rfl, World.grownBy.refl _ _, rfl⟩ | exact ⟨_, rfl, Touch.refl _ _, rfl⟩
           simp only [List.cons_append, List.nil_append])
        apply steps_fx
        · intro vs X hC hB hA
          try simp only [List.getD_cons_zero, List.getD_cons_succ, List.forall_mem_cons, List.not_mem_nil, false_implies, implies_true, and_true] at hA
          simp only [List.getD_cons_zero, List.getD_cons_succ, putL, dstOf, List.foldl_nil, List.foldl_cons, List.getElem?_toArray, List.getElem?_cons_zero, List.getElem?_cons_succ, Option.bind_some, Act.put, List.setIfInBounds_toArray, List.set_cons_zero, List.set_cons_succ]
          try simp only [hA]
          have hm := hC.cells.1
          go_wp2_with fail
          exact ⟨_, rfl, Touch.refl _ _, rfl⟩
        simp only [List.cons_append, List.nil_append]
        apply steps_pr (fun v X => OwnB X v (y.fixed q.n).1 ∧ (∀ k, v.ownBlock = some k → w4.heap.size ≤ k) ∧ EyeAt eb (y.fixed q.n).2 X) (fun j v X Y _ hj _ _ hb hG h => ⟨hG.keepO hj h.1 (fun k hk => Nat.lt_of_lt_of_le (by omega) (h.2.1 k hk)), h.2.1, hG.keepE hne hj hb h.2.2⟩)
        · intro vs X hC hB hA
          try simp only [List.getD_cons_zero, List.getD_cons_succ, List.forall_mem_cons, List.not_mem_nil, false_implies, implies_true, and_true] at hA
          simp only [List.getD_cons_zero, List.getD_cons_succ, putL, dstOf, List.foldl_nil, List.foldl_cons, List.getElem?_toArray, List.getElem?_cons_zero, List.getElem?_cons_succ, Option.bind_some, Act.put, List.setIfInBounds_toArray, List.set_cons_zero, List.set_cons_succ]
          try simp only [hA]
          go_wp2_with fail
          refine (eye_fixed eb y q.n X (hB.1 rfl) hyl).mono ?_
          rintro e w5 ⟨v5, rfl, q1, q2, q3, t5⟩
          go_wp2_with fail
          exact ⟨_, rfl, PG.eye rfl t5, q1, fun k hk => Nat.le_trans hC.2.2 (q2 k hk), q3⟩
        simp only [List.cons_append, List.nil_append]
        apply steps_fx (str (y.fixed q.n).1)
        · intro vs X hC hB hA
          try simp only [List.getD_cons_zero, List.getD_cons_succ, List.forall_mem_cons, List.not_mem_nil, false_implies, implies_true, and_true] at hA
          simp only [List.getD_cons_zero, List.getD_cons_succ, putL, dstOf, List.foldl_nil, List.foldl_cons, List.getElem?_toArray, List.getElem?_cons_zero, List.getElem?_cons_succ, Option.bind_some, Act.put, List.setIfInBounds_toArray, List.set_cons_zero, List.set_cons_succ]
          try simp only [hA]
          have hcv := conv_bytes hA.1.at
          go_wp2_with fail
          exact ⟨_, rfl, Touch.refl _ _, rfl⟩
        simp only [List.cons_append, List.nil_append]
        iterate 2
          (apply steps_fx
           · intro vs X hC hB hA
             try simp only [List.getD_cons_zero, List.getD_cons_succ, List.forall_mem_cons, List.not_mem_nil, false_implies, implies_true, and_true] at hA
             simp only [List.getD_cons_zero, List.getD_cons_succ, putL, dstOf, List.foldl_nil, List.foldl_cons, List.getElem?_toArray, List.getElem?_cons_zero, List.getElem?_cons_succ, Option.bind_some, Act.put, List.setIfInBounds_toArray, List.set_cons_zero, List.set_cons_succ]
             try simp only [hA]
             go_wp2_with fail
             first | exact ⟨_, rfl, World.grownBy.refl _ _, rfl⟩ | exact ⟨_, rfl, Touch.refl _ _, rfl⟩
           simp only [List.cons_append, List.nil_append])
        apply steps_fx
        · intro vs X hC hB hA
          try simp only [List.getD_cons_zero, List.getD_cons_succ, List.forall_mem_cons, List.not_mem_nil, false_implies, implies_true, and_true] at hA
          simp only [List.getD_cons_zero, List.getD_cons_succ, putL, dstOf, List.foldl_nil, List.foldl_cons, List.getElem?_toArray, List.getElem?_cons_zero, List.getElem?_cons_succ, Option.bind_some, Act.put, List.setIfInBounds_toArray, List.set_cons_zero, List.set_cons_succ]
          try simp only [hA]
          have hm := hC.cells.1
          go_wp2_with fail
          exact ⟨_, rfl, Touch.refl _ _, rfl⟩
        simp only [List.cons_append, List.nil_append]
        apply steps_pr (fun v X => v = str (y.fixed q.n).1 ∧ RefAt xb (y.fixed q.n).2 X) (fun j v X Y _ hj _ _ hb hG h => ⟨h.1, hG.keepR hne hj h.2⟩)
        · intro vs X hC hB hA
          try simp only [List.getD_cons_zero, List.getD_cons_succ, List.forall_mem_cons, List.not_mem_nil, false_implies, implies_true, and_true] at hA
          simp only [List.getD_cons_zero, List.getD_cons_succ, putL, dstOf, List.foldl_nil, List.foldl_cons, List.getElem?_toArray, List.getElem?_cons_zero, List.getElem?_cons_succ, Option.bind_some, Act.put, List.setIfInBounds_toArray, List.set_cons_zero, List.set_cons_succ]
          try simp only [hA]
          go_wp2_with fail
          refine (ref_fixed xb y q.n X (hB.2 rfl)).mono ?_
          rintro e w5 ⟨rfl, q1, t5⟩
          go_wp2_with fail
          exact ⟨_, rfl, PG.ref rfl t5, rfl, q1⟩
        simp only [List.cons_append, List.nil_append]
        apply steps_fx (.bool true)
        · intro vs X hC hB hA
          try simp only [List.getD_cons_zero, List.getD_cons_succ, List.forall_mem_cons, List.not_mem_nil, false_implies, implies_true, and_true] at hA
          simp only [List.getD_cons_zero, List.getD_cons_succ, putL, dstOf, List.foldl_nil, List.foldl_cons, List.getElem?_toArray, List.getElem?_cons_zero, List.getElem?_cons_succ, Option.bind_some, Act.put, List.setIfInBounds_toArray, List.set_cons_zero, List.set_cons_succ]
          try simp only [hA]
          obtain ⟨g1, ⟨g2, _⟩⟩ := hA
          try rw [g1, g2]
          go_wp2_with fail
          exact ⟨_, rfl, Touch.refl _ _, rfl⟩
        simp only [List.cons_append, List.nil_append]
        iterate 1
          (apply steps_fx
           · intro vs X hC hB hA
             try simp only [List.getD_cons_zero, List.getD_cons_succ, List.forall_mem_cons, List.not_mem_nil, false_implies, implies_true, and_true] at hA
             simp only [List.getD_cons_zero, List.getD_cons_succ, putL, dstOf, List.foldl_nil, List.foldl_cons, List.getElem?_toArray, List.getElem?_cons_zero, List.getElem?_cons_succ, Option.bind_some, Act.put, List.setIfInBounds_toArray, List.set_cons_zero, List.set_cons_succ]
             try simp only [hA]
             go_wp2_with fail
             first | exact ⟨_, rfl, World.grownBy.refl _ _, rfl⟩ | exact ⟨_, rfl, Touch.refl _ _, rfl⟩
           simp only [List.cons_append, List.nil_append])
        refine steps_nil ?_
        intro vs X hC hA
        rw [(fun (l : List Oper) (h : l.length = 11) => (by rw [h]; rfl : List.range l.length = [0, 1, 2, 3, 4, 5, 6, 7, 8, 9, 10])) _ rfl]
        simp only [List.getD_cons_zero, List.getD_cons_succ, putL, dstOf, List.foldl_nil, List.foldl_cons, List.getElem?_toArray, List.getElem?_cons_zero, List.getElem?_cons_succ, Option.bind_some, Act.put, List.setIfInBounds_toArray, List.set_cons_zero, List.set_cons_succ]
        obtain ⟨_, _, HE5⟩ : OwnB X (vs 3) (y.fixed q.n).1 ∧ (∀ k, (vs 3).ownBlock = some k → w4.heap.size ≤ k) ∧ EyeAt eb (y.fixed q.n).2 X := hA 3 (by decide)
        obtain ⟨_, HR5⟩ : vs 8 = str (y.fixed q.n).1 ∧ RefAt xb (y.fixed q.n).2 X := hA 8 (by decide)
        have u9 : vs 10 = .bool true := hA 10 (by decide)
        rw [u9]
        have HE6 := Lib.hid HE5
        have HR6 := Lib.hid HR5
        have hB6 := hC.1
        have hl6 := Nat.le_trans (Ey.fixed_len y q.n).2 hyl
        clear u9 hA hC HE5 HR5 hB4 HE4 HR4 hop hlt4
        generalize (y.fixed q.n).2 = y6 at *
        have hcc : ∀ Z, Below X.heap.size X Z → Z.cell? ⟨xb, 0, none⟩ = some (str y6.s) ∧ Z.cell? ⟨xb, 1, none⟩ = some (.int .i64 y6.e) := fun Z hX => ⟨(HR6.out.below hX).cells.1, (HR6.out.below hX).cells.2.1⟩
        go_wp2_with fail
        refine wp_region_calm_lit (by kernel_rfl) (by kernel_rfl) ?_
        repeat
          first
          | (apply calm_want
             · first | rfl | (go_simp; done)
             · intro X hX
               go_simp
               first
                 | done
                 | rfl
                 | (refine ⟨trivial, ?_⟩; (first | exact calls_calm_same hX (err_any eb y6 X (HE6.out.below hX)) | exact calls_calm_same hX (left_any eb y6 X (HE6.out.below hX))); done)
                 | ((first | exact calls_calm_same hX (err_any eb y6 X (HE6.out.below hX)) | exact calls_calm_same hX (left_any eb y6 X (HE6.out.below hX))); done)
             intro K hK
             go_simp
             refine hK _ ?_
             clear hK K)
          | (apply calm_skip
             · first | rfl | (go_simp; done)
             intro K hK
             go_simp
             refine hK _ ?_
             clear hK K)
        refine wpQuiet_nil ?_
        intro X hX
        have HE9 := Lib.hid (HE6.out.below hX)
        have HR9 := Lib.hid (HR6.out.below hX)
        have hB9 := hB6.trans (hX.mono hB6.size)
        clear hcc hX HE6 HR6 hB6
        go_wp2_with fail
        exact ⟨⟨i + 1, by omega, by go_num, hB9, y6, hl6, HE9, HR9⟩, by simp [intOf]; omega⟩
      replace t3 := (Bool.not_eq_true _).mp t3
      by_cases t4 : ((IntKind.u64.wrap q.kind).tmod 6 == 4) = true
      · go_wp2_with fail
        have hA4 : Below wr.heap.size wr (wr.alloc (.cells #[.int .i64 q.kind, .int .i64 q.n, .int .u64 (U q.u)] 55)) := (Below.refl _ _).alloc (Nat.le_refl _) _
        have hop : (wr.alloc (.cells #[.int .i64 q.kind, .int .i64 q.n, .int .u64 (U q.u)] 55)).heap[wr.heap.size]? = some (.cells #[.int .i64 q.kind, .int .i64 q.n, .int .u64 (U q.u)] 55 (0, 0)) := World.alloc_heap_new _ _
        have HE4 := Lib.hid (HE.out.below hA4)
        have HR4 := Lib.hid (HR.out.below hA4)
        have hB4 := hB.trans (hA4.mono hB.size)
        have hlt4 := blk_lt hop
        generalize wr.alloc (.cells #[.int .i64 q.kind, .int .i64 q.n, .int .u64 (U q.u)] 55) = w4 at *
        clear hA4 HE HR
        obtain ⟨f, hf⟩ : ∃ f : Int, q.n.tmod 100 = f := ⟨_, rfl⟩
        have hop' : w4.cell? ⟨wr.heap.size, 1, none⟩ = some (.int .i64 q.n) := by simp [World.cell?, hop]
        go_wp2_with fail
        rw [hf]
        clear hf hop'
        refine (fail_any eb y f w4 HE4.out).mono ?_
        rintro e w5 ⟨⟨v5, rfl⟩, q1, t5⟩
        have r5 := HR4.out.keep t5 (show ¬ (xb = eb) from fun e => hne e.symm)
        have HE5 := Lib.hid q1
        have HR5 := Lib.hid r5
        have hB5 := hB4.trans (t5.below (by rintro j rfl; exact hwe) hB4.size)
        clear q1 t5 r5 hB4 HE4 HR4
        go_wp2_with fail
        refine (ref_fail xb y f w5 HR5.out).mono ?_
        rintro e w6 ⟨⟨v6, rfl⟩, q1, t6⟩
        have HE6 := Lib.hid (HE5.out.other HR5.out t6 hne)
        have HR6 := Lib.hid q1
        have hB6 := hB5.trans (t6.below (by rintro j rfl; exact hwx) hB5.size)
        have hl6 := Nat.le_trans (Ey.fail_len y f) hyl
        clear q1 t6 hB5 HE5 HR5
        generalize y.fail f = y6 at *
        have hcc : ∀ Z, Below w6.heap.size w6 Z → Z.cell? ⟨xb, 0, none⟩ = some (str y6.s) ∧ Z.cell? ⟨xb, 1, none⟩ = some (.int .i64 y6.e) := fun Z hX => ⟨(HR6.out.below hX).cells.1, (HR6.out.below hX).cells.2.1⟩
        go_wp2_with fail
        refine wp_region_calm_lit (by kernel_rfl) (by kernel_rfl) ?_
        repeat
          first
          | (apply calm_want
             · first | rfl | (go_simp; done)
             · intro X hX
               go_simp
               first
                 | done
                 | rfl
                 | (refine ⟨trivial, ?_⟩; (first | exact calls_calm_same hX (err_any eb y6 X (HE6.out.below hX)) | exact calls_calm_same hX (left_any eb y6 X (HE6.out.below hX))); done)
                 | ((first | exact calls_calm_same hX (err_any eb y6 X (HE6.out.below hX)) | exact calls_calm_same hX (left_any eb y6 X (HE6.out.below hX))); done)
             intro K hK
             go_simp
             refine hK _ ?_
             clear hK K)
          | (apply calm_skip
             · first | rfl | (go_simp; done)
             intro K hK
             go_simp
             refine hK _ ?_
             clear hK K)
        refine wpQuiet_nil ?_
        intro X hX
        have HE9 := Lib.hid (HE6.out.below hX)
        have HR9 := Lib.hid (HR6.out.below hX)
        have hB9 := hB6.trans (hX.mono hB6.size)
        clear hcc hX HE6 HR6 hB6
        go_wp2_with fail
        exact ⟨⟨i + 1, by omega, by go_num, hB9, y6, hl6, HE9, HR9⟩, by simp [intOf]; omega⟩
      replace t4 := (Bool.not_eq_true _).mp t4
      go_wp2_with fail
      have hA4 : Below wr.heap.size wr (wr.alloc (.cells #[.int .i64 q.kind, .int .i64 q.n, .int .u64 (U q.u)] 55)) := (Below.refl _ _).alloc (Nat.le_refl _) _
      have hop : (wr.alloc (.cells #[.int .i64 q.kind, .int .i64 q.n, .int .u64 (U q.u)] 55)).heap[wr.heap.size]? = some (.cells #[.int .i64 q.kind, .int .i64 q.n, .int .u64 (U q.u)] 55 (0, 0)) := World.alloc_heap_new _ _
      have HE4 := Lib.hid (HE.out.below hA4)
      have HR4 := Lib.hid (HR.out.below hA4)
      have hB4 := hB.trans (hA4.mono hB.size)
      have hlt4 := blk_lt hop
      generalize wr.alloc (.cells #[.int .i64 q.kind, .int .i64 q.n, .int .u64 (U q.u)] 55) = w4 at *
      clear hA4 HE HR
      refine (end_any eb y w4 HE4.out).mono ?_
      rintro e w5 ⟨rfl, q1, t5⟩
      have r5 := HR4.out.keep t5 (show ¬ (xb = eb) from fun e => hne e.symm)
      have HE5 := Lib.hid q1
      have HR5 := Lib.hid r5
      have hB5 := hB4.trans (t5.below (by rintro j rfl; exact hwe) hB4.size)
      clear q1 t5 r5 hB4 HE4 HR4
      go_wp2_with fail
      refine (ref_end xb y w5 HR5.out).mono ?_
      rintro e w6 ⟨rfl, q1, t6⟩
      have HE6 := Lib.hid (HE5.out.other HR5.out t6 hne)
      have HR6 := Lib.hid q1
      have hB6 := hB5.trans (t6.below (by rintro j rfl; exact hwx) hB5.size)
      clear q1 t6 hB5 HE5 HR5
      have hcc : ∀ Z, Below w6.heap.size w6 Z → Z.cell? ⟨xb, 0, none⟩ = some (str y.fin.s) ∧ Z.cell? ⟨xb, 1, none⟩ = some (.int .i64 y.fin.e) := fun Z hX => ⟨(HR6.out.below hX).cells.1, (HR6.out.below hX).cells.2.1⟩
      go_wp2_with fail
      refine wp_region_calm_lit (by kernel_rfl) (by kernel_rfl) ?_
      repeat
        first
        | (apply calm_want
           · first | rfl | (go_simp; done)
           · intro X hX
             go_simp
             first
               | done
               | rfl
               | (refine ⟨trivial, ?_⟩; (first | exact calls_calm_same hX (err_any eb y.fin X (HE6.out.below hX)) | exact calls_calm_same hX (left_any eb y.fin X (HE6.out.below hX))); done)
               | ((first | exact calls_calm_same hX (err_any eb y.fin X (HE6.out.below hX)) | exact calls_calm_same hX (left_any eb y.fin X (HE6.out.below hX))); done)
           intro K hK
           go_simp
           refine hK _ ?_
           clear hK K)
        | (apply calm_skip
           · first | rfl | (go_simp; done)
           intro K hK
           go_simp
           refine hK _ ?_
           clear hK K)
      refine wpQuiet_nil ?_
      intro X hX
      have HE9 := Lib.hid (HE6.out.below hX)
      have HR9 := Lib.hid (HR6.out.below hX)
      have hB9 := hB6.trans (hX.mono hB6.size)
      clear hcc hX HE6 HR6 hB6
      go_wp2_with fail
      exact ⟨⟨i + 1, by omega, by go_num, hB9, y.fin, Nat.le_trans (Ey.fin_len y) hyl, HE9, HR9⟩, by simp [intOf]; omega⟩
    · have e4 : decide (i < os.length) = false := decide_eq_false hil
      go_wp2_with fail
      refine (fail_nil _ wr).mono ?_
      rintro e w2 ⟨⟨v2, rfl⟩, rfl⟩
      go_wp2_with fail
      refine (eye_number_nil _ wr).mono ?_
      rintro e w2 ⟨rfl, rfl⟩
      go_wp2_with fail
      refine (eye_signed_nil wr).mono ?_
      rintro e w2 ⟨rfl, rfl⟩
      go_wp2_with fail
      refine (eye_text_nil _ wr).mono ?_
      rintro e w2 ⟨rfl, rfl⟩
      go_wp2_with fail
      refine (eye_fixed_nil _ wr).mono ?_
      rintro e w2 ⟨rfl, rfl⟩
      go_wp2_with fail
      refine (left_nil wr).mono ?_
      rintro e w2 ⟨rfl, rfl⟩
      go_wp2_with fail
      refine (err_nil wr).mono ?_
      rintro e w2 ⟨rfl, rfl⟩
      go_wp2_with fail
      refine (end_nil wr).mono ?_
      rintro e w2 ⟨rfl, rfl⟩
      go_wp2_with fail
      go_ret
      exact ⟨rfl, hB⟩
end Go.Proofs.Ytfmgkllnncibaaa
