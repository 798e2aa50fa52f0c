/- Law CellReads: the walk.
   Conditions: those that the theorem names. -/
import Derived.Test.YtkdbbdlkfpjdfaaRefC2
import Derived.Test.YtkdbbdlkfpjdfaaRefC3
import Derived.Test.YtkdbbdlkfpjdfaaCelP
import Derived.Test.YtkdbbdlkfpjdfaaCelG
namespace Go.Proofs.Ytkdbbdlkfpjdfaa
set_option maxRecDepth 100000
set_option linter.unusedVariables false
set_option linter.unusedSimpArgs false
open Go.RowKit Go.Rg
set_option linter.unusedVariables false
theorem EyeAt.other {lo eb xb : Nat} {y x : Ey} {X Y : World} (h : EyeAt lo eb y X) (hr : RefAt xb x X) (hT : Touch (fun k => k = xb) X Y) (hne : eb ≠ xb) : EyeAt lo eb y Y := by
  obtain ⟨p, cap, hc, h1, h2, h3⟩ := h
  refine ⟨p, cap, hc, hT.keep h1 hne, ?_, fun a ha => ⟨(h3 a ha).1, Nat.lt_of_lt_of_le (h3 a ha).2.1 hT.size, (h3 a ha).2.2⟩⟩
  by_cases h0 : y.s.length = 0
  · exact BytesAt.none _ _ _ _ _ h0 h0
  obtain ⟨p', cap', hv, hf⟩ := h2
  obtain ⟨g, o, e1, hg, hcc⟩ := hf 0 (by omega)
  cases hv
  subst e1
  have hgx : g ≠ xb := by
    rintro rfl
    have hr' : X.heap[g]? = some (.cells #[str x.s, .int .i64 x.e] 51 (0, 0)) := hr
    simp only [World.cell?, hr'] at hcc
    rcases o with _ | _ | o
    · simp at hcc
    · simp at hcc
    · simp at hcc
  refine BytesAt.kept ⟨_, _, rfl, hf⟩ ?_ hT.size
  rintro k hk hlt
  cases hk
  exact hT.block _ hlt hgx
theorem eye_not_ref {lo b : Nat} {y x : Ey} {X : World} (h : EyeAt lo b y X) (hr : RefAt b x X) : False := by
  obtain ⟨p, cap, hc, h1, h2, h3⟩ := h
  have := h1.symm.trans (show X.heap[b]? = _ from hr)
  simp at this
theorem PenM.lt {b : Nat} {r : Option Nat} {n : Nat} (hb : n ≤ b) (hr : ∀ k, r = some k → n ≤ k) : ∀ j, PenM b r j → n ≤ j := by
  rintro j (rfl | e)
  · exact hb
  · exact hr j e.symm
theorem build_pen (w : World) : (Instr.build 44 #[]).run Try.prog w = .ok (.agg #[.slice none 0 0]) w := by kernel_rfl
theorem Ey.cell_m (x : Ey) : x.cell.1.m.length = 16 := by
  unfold Ey.cell
  split
  · split
    · unfold Ey.raw; exact full_length (Ey.fixed_upto x.c1 16)
    · rfl
  · rfl
set_option maxHeartbeats 8000000 in
theorem creads_walk (c : Ce) (hc : c.ok) (v1 : Value) (b : List UInt8) (w : World) (hb : BytesAt w v1 b) :
    Calls Try.prog 6 #[cellV c, v1] w fun e w' => e = .returned (.bool true) ∧ Below w.heap.size w w' := by
  unfold cellV
  obtain ⟨pb, cb, rfl⟩ := hb.shape
  have hbx : CellAt w.heap.size 26 c (w.alloc (.cells c.vals.toArray 26)) := World.alloc_heap_new _ _
  have hB0 : Below w.heap.size w (w.alloc (.cells c.vals.toArray 26)) := (Below.refl _ _).alloc (Nat.le_refl _) _
  replace hb := Lib.hid hb
  replace hbx := Lib.hid hbx
  replace hB0 := Lib.hid hB0
  replace hc := Lib.hid hc
  go_enter Try.func6, Try.ntmps6
  go_wp2_with fail
  generalize w.alloc (.cells c.vals.toArray 26) = w0 at *
  refine (first10 w0).mono ?_
  rintro e w1 ⟨rfl, hB⟩
  have hbx1 := hbx.out.below hB (blk_lt hbx.out)
  have BW := hB0.out.trans (hB.mono hB0.out.size)
  by_cases h1 : 500 < b.length
  · have e1 : decide ((500 : Int) < (b.length : Int)) = true := decide_eq_true (by omega)
    go_wp2_with fail
    go_ret
    exact ⟨rfl, BW⟩
  have e1 : decide ((500 : Int) < (b.length : Int)) = false := decide_eq_false (by omega)
  have hp : PenAt w1.heap.size none [] (w1.alloc (.cells #[.slice none 0 0] 44)) := ⟨.slice none 0 0, World.alloc_heap_new _ _, rfl, OwnB.nil _⟩
  have hBp : Below w1.heap.size w1 (w1.alloc (.cells #[.slice none 0 0] 44)) := (Below.refl _ _).alloc (Nat.le_refl _) _
  have hbx2 := hbx1.below hBp (blk_lt hbx1)
  have hlx : w.heap.size < w1.heap.size := blk_lt hbx1
  have lm := hbx2.whole hc.out.m
  have BW2 := BW.trans (hBp.mono BW.size)
  replace hp := Lib.hid hp
  replace hbx2 := Lib.hid hbx2
  replace BW2 := Lib.hid BW2
  clear hbx hB0 hB hbx1 BW hBp
  have kr := fun X => refright_any c hc.out X
  have hrd : decide (-1048576 ≤ c.n ∧ c.n ≤ 1048576) = c.right := rfl
  rw [hrd] at kr
  unfold cellV at kr
  go_wp2_with (first | (refine wpList_load_at rfl _ _ rfl rfl (lm) ?_))
  clear lm hrd
  generalize w1.alloc (.cells #[.slice none 0 0] 44) = w2 at *
  generalize w1.heap.size = kp at *
  cases hr : c.right
  focus
    rw [hr] at kr
    refine (show Calls Try.prog 25 #[ptr kp, .agg c.vals.toArray] w2 _ from put_wrong c hc.out hr (ptr kp) w2).mono ?_
    rintro e w3 ⟨rfl, hB⟩
    have hp3 := hp.out.below hB
    have hbx3 := hbx2.out.below hB (blk_lt hbx2.out)
    have BW3 := BW2.out.trans (hB.mono BW2.out.size)
    have lm := hbx3.whole hc.out.m
    replace hp3 := Lib.hid hp3
    replace hbx3 := Lib.hid hbx3
    replace BW3 := Lib.hid BW3
    replace kr := Lib.hid kr
    clear hB hp hbx2 BW2
    go_wp2_with (first | (refine wpList_load_at rfl _ _ rfl rfl (lm) ?_))
    clear lm
    refine (kr.out w3).mono ?_
    rintro e w4 ⟨rfl, hB⟩
    have hbx4 := hbx3.out.below hB (blk_lt hbx3.out)
    replace hbx4 := Lib.hid hbx4
    replace hp3 := Lib.hid (hp3.out.below hB)
    replace BW3 := Lib.hid (BW3.out.trans (hB.mono BW3.out.size))
    clear hB
    clear hbx3
    obtain ⟨P, hP⟩ : ∃ P : List UInt8, P = [] := ⟨[], rfl⟩
    have hPl : P.length ≤ 100 := by rw [hP]; simp
    replace hp3 := hp3.out
    rw [← hP] at hp3
    have hs0 : (Value.string { data := #[] }) = str P := by rw [hP]
    have hs1 : (Value.string { data := Array.mk [] }) = str P := by rw [hP]
    have hs2 : (Value.string ByteArray.empty) = str P := by rw [hP]; rfl
    have hs3 : (Value.string { data := Array.empty }) = str P := by rw [hP]; rfl
    have hs4 : str [] = str P := by rw [hP]
    replace hs0 := Lib.hid hs0
    replace hs1 := Lib.hid hs1
    replace hs2 := Lib.hid hs2
    replace hs3 := Lib.hid hs3
    replace hs4 := Lib.hid hs4
    obtain ⟨r, hrr⟩ : ∃ r, c.right = r := ⟨_, rfl⟩
    obtain ⟨rp, hp3'⟩ : ∃ rp, PenAt kp rp P w4 := ⟨none, hp3⟩
    clear hp3
    have hp3 := hp3'
    clear hp3'
    replace hP := Lib.hid hP
    replace hp3 := Lib.hid hp3
    go_wp2_with fail
    first | rw [hs0.out] | rw [hs1.out] | rw [hs2.out] | rw [hs3.out] | rw [hs4.out]
    clear hs0 hs1 hs2 hs3 hs4
    replace hr := Lib.hid hr
  rotate_left 1
  focus
    rw [hr] at kr
    refine (show Calls Try.prog 25 #[ptr kp, .agg c.vals.toArray] w2 _ from put_any c hc.out hr kp none [] w2 hp.out (by simp)).mono ?_
    rintro e w3 ⟨rfl, rp, hN, hp3, hT⟩
    rw [List.nil_append] at hp3
    have hbx3 : CellAt w.heap.size 26 c w3 := hT.keep hbx2.out (by rintro (e | e); omega; cases e)
    have BW3 := BW2.out.trans (hT.below (n := w.heap.size) (PenM.lt (by omega) (fun k e => by cases e)) BW2.out.size)
    have lm := hbx3.whole hc.out.m
    replace hp3 := Lib.hid hp3
    replace hbx3 := Lib.hid hbx3
    replace BW3 := Lib.hid BW3
    replace kr := Lib.hid kr
    clear hT hp hbx2 BW2 hN
    go_wp2_with (first | (refine wpList_load_at rfl _ _ rfl rfl (lm) ?_))
    refine (kr.out w3).mono ?_
    rintro e w5 ⟨rfl, hB⟩
    have hbx4 := hbx3.out.below hB (blk_lt hbx3.out)
    replace hbx4 := Lib.hid hbx4
    replace hp3 := Lib.hid (hp3.out.below hB)
    replace BW3 := Lib.hid (BW3.out.trans (hB.mono BW3.out.size))
    clear hB
    clear hbx3 lm
    have lm := hbx4.out.whole hc.out.m
    go_wp2_with (first | (refine wpList_load_at rfl _ _ rfl rfl (lm) ?_))
    clear lm
    refine (refcbytes_any c hc.out w5).mono ?_
    rintro e w4 ⟨rfl, hB⟩
    replace hbx4 := Lib.hid (hbx4.out.below hB (blk_lt hbx4.out))
    replace hp3 := Lib.hid (hp3.out.below hB)
    replace BW3 := Lib.hid (BW3.out.trans (hB.mono BW3.out.size))
    clear hB
    have hPl : c.bytes.length ≤ 100 := by
      have h2 : (numN (zigN c.n).toNat).length ≤ 9 := by rw [numN_length]; unfold sizeN; split; omega; have := digits_lt 8 (zigN c.n).toNat (by have := (zigN c.n).toNat_lt; omega); omega
      unfold Ce.bytes
      rw [List.length_append, List.length_append, hc.out.m, eightL_length]
      omega
    generalize c.bytes = P at *
    go_wp2_with fail
    replace hr := Lib.hid hr
  rotate_left 1
  all_goals
    have hb4 := hb.out.below BW3.out
    replace hb4 := Lib.hid hb4
    refine wp_region_vals [[], [0], [], [2], [3], [4], [1], [5]] (fun X => Below w4.heap.size w4 X) (fun X Y => Below X.heap.size X Y) (by kernel_rfl) (by kernel_rfl) (by kernel_rfl) (Below.drew (Below.refl _ _)) (fun X Y hC hG => hC.trans (hG.mono hC.size)) ?_
    iterate 1
      (apply vals_fx
       · intro vs X hX hA
         try simp only [List.cons_append, List.nil_append, List.getD_cons_zero, List.getD_cons_succ, List.forall_mem_cons, List.not_mem_nil, false_implies, implies_true, and_true] at hA
         simp only [List.getD_cons_zero, List.getD_cons_succ, putL, dstOf, List.foldl_nil, List.foldl_cons, List.getElem?_toArray, List.getElem?_cons_zero, List.getElem?_cons_succ, Option.bind_some, Act.put, List.setIfInBounds_toArray, List.set_cons_zero, List.set_cons_succ]
         try simp only [hA]
         go_wp2_with fail
         exact ⟨_, rfl, Below.refl _ _, rfl⟩
       simp only [List.cons_append, List.nil_append])
    apply vals_pr (fun v X => ∃ lo eb, v = ptr eb ∧ w4.heap.size ≤ eb ∧ lo ≤ X.heap.size ∧ EyeAt lo eb ⟨b, 0⟩ X) (by rintro v X Y _ hG ⟨lo, eb, e, h, h2, hE⟩; exact ⟨lo, eb, e, h, Nat.le_trans h2 hG.size, hE.below hG⟩)
    · intro vs X hX hA
      try simp only [List.cons_append, List.nil_append, List.getD_cons_zero, List.getD_cons_succ, List.forall_mem_cons, List.not_mem_nil, false_implies, implies_true, and_true] at hA
      simp only [List.getD_cons_zero, List.getD_cons_succ, putL, dstOf, List.foldl_nil, List.foldl_cons, List.getElem?_toArray, List.getElem?_cons_zero, List.getElem?_cons_succ, Option.bind_some, Act.put, List.setIfInBounds_toArray, List.set_cons_zero, List.set_cons_succ]
      try simp only [hA]
      go_wp2_with fail
      refine (read_any _ b X (hb4.out.below hX) (by omega)).mono ?_
      rintro e w2 ⟨eb, rfl, leb, ey, hB2⟩
      go_wp2_with fail
      exact ⟨_, rfl, hB2, _, eb, rfl, Nat.le_trans hX.size leb, Nat.le_refl _, ey⟩
    simp only [List.cons_append, List.nil_append]
    iterate 1
      (apply vals_fx
       · intro vs X hX hA
         try simp only [List.cons_append, List.nil_append, List.getD_cons_zero, List.getD_cons_succ, List.forall_mem_cons, List.not_mem_nil, false_implies, implies_true, and_true] at hA
         simp only [List.getD_cons_zero, List.getD_cons_succ, putL, dstOf, List.foldl_nil, List.foldl_cons, List.getElem?_toArray, List.getElem?_cons_zero, List.getElem?_cons_succ, Option.bind_some, Act.put, List.setIfInBounds_toArray, List.set_cons_zero, List.set_cons_succ]
         try simp only [hA]
         go_wp2_with fail
         exact ⟨_, rfl, Below.refl _ _, rfl⟩
       simp only [List.cons_append, List.nil_append])
    apply vals_fx
    · intro vs X hX hA
      try simp only [List.cons_append, List.nil_append, List.getD_cons_zero, List.getD_cons_succ, List.forall_mem_cons, List.not_mem_nil, false_implies, implies_true, and_true] at hA
      simp only [List.getD_cons_zero, List.getD_cons_succ, putL, dstOf, List.foldl_nil, List.foldl_cons, List.getElem?_toArray, List.getElem?_cons_zero, List.getElem?_cons_succ, Option.bind_some, Act.put, List.setIfInBounds_toArray, List.set_cons_zero, List.set_cons_succ]
      try simp only [hA]
      have hcv := conv_bytes (hb4.out.below hX)
      go_wp2_with fail
      exact ⟨_, rfl, Below.refl _ _, rfl⟩
    simp only [List.cons_append, List.nil_append]
    iterate 1
      (apply vals_fx
       · intro vs X hX hA
         try simp only [List.cons_append, List.nil_append, List.getD_cons_zero, List.getD_cons_succ, List.forall_mem_cons, List.not_mem_nil, false_implies, implies_true, and_true] at hA
         simp only [List.getD_cons_zero, List.getD_cons_succ, putL, dstOf, List.foldl_nil, List.foldl_cons, List.getElem?_toArray, List.getElem?_cons_zero, List.getElem?_cons_succ, Option.bind_some, Act.put, List.setIfInBounds_toArray, List.set_cons_zero, List.set_cons_succ]
         try simp only [hA]
         go_wp2_with fail
         exact ⟨_, rfl, Below.refl _ _, rfl⟩
       simp only [List.cons_append, List.nil_append])
    apply vals_pr (fun v X => ∃ xb, v = ptr xb ∧ w4.heap.size ≤ xb ∧ RefAt xb ⟨b, 0⟩ X) (by rintro v X Y _ hG ⟨eb, e, h, hE⟩; exact ⟨eb, e, h, hE.below hG⟩)
    · intro vs X hX hA
      try simp only [List.cons_append, List.nil_append, List.getD_cons_zero, List.getD_cons_succ, List.forall_mem_cons, List.not_mem_nil, false_implies, implies_true, and_true] at hA
      simp only [List.getD_cons_zero, List.getD_cons_succ, putL, dstOf, List.foldl_nil, List.foldl_cons, List.getElem?_toArray, List.getElem?_cons_zero, List.getElem?_cons_succ, Option.bind_some, Act.put, List.setIfInBounds_toArray, List.set_cons_zero, List.set_cons_succ]
      try simp only [hA]
      go_wp2_with fail
      exact ⟨_, rfl, (Below.refl _ _).alloc (Nat.le_refl _) _, _, rfl, hX.size, World.alloc_heap_new _ _⟩
    simp only [List.cons_append, List.nil_append]
    apply vals_pr (fun v X => ∃ lo eb, v = ptr eb ∧ w4.heap.size ≤ eb ∧ lo ≤ X.heap.size ∧ EyeAt lo eb ⟨b, 0⟩ X) (by rintro v X Y _ hG ⟨lo, eb, e, h, h2, hE⟩; exact ⟨lo, eb, e, h, Nat.le_trans h2 hG.size, hE.below hG⟩)
    · intro vs X hX hA
      try simp only [List.cons_append, List.nil_append, List.getD_cons_zero, List.getD_cons_succ, List.forall_mem_cons, List.not_mem_nil, false_implies, implies_true, and_true] at hA
      simp only [List.getD_cons_zero, List.getD_cons_succ, putL, dstOf, List.foldl_nil, List.foldl_cons, List.getElem?_toArray, List.getElem?_cons_zero, List.getElem?_cons_succ, Option.bind_some, Act.put, List.setIfInBounds_toArray, List.set_cons_zero, List.set_cons_succ]
      try simp only [hA]
      obtain ⟨lo, eb, e3, leb, llo, ey⟩ := hA
      rw [e3]
      go_wp2_with fail
      exact ⟨_, rfl, Below.refl _ _, lo, eb, rfl, leb, llo, ey⟩
    simp only [List.cons_append, List.nil_append]
    apply vals_pr (fun v X => ∃ xb, v = ptr xb ∧ w4.heap.size ≤ xb ∧ RefAt xb ⟨b, 0⟩ X) (by rintro v X Y _ hG ⟨eb, e, h, hE⟩; exact ⟨eb, e, h, hE.below hG⟩)
    · intro vs X hX hA
      try simp only [List.cons_append, List.nil_append, List.getD_cons_zero, List.getD_cons_succ, List.forall_mem_cons, List.not_mem_nil, false_implies, implies_true, and_true] at hA
      simp only [List.getD_cons_zero, List.getD_cons_succ, putL, dstOf, List.foldl_nil, List.foldl_cons, List.getElem?_toArray, List.getElem?_cons_zero, List.getElem?_cons_succ, Option.bind_some, Act.put, List.setIfInBounds_toArray, List.set_cons_zero, List.set_cons_succ]
      try simp only [hA]
      obtain ⟨eb, e3, leb, ey⟩ := hA
      rw [e3]
      go_wp2_with fail
      exact ⟨_, rfl, Below.refl _ _, eb, rfl, leb, ey⟩
    simp only [List.cons_append, List.nil_append]
    refine vals_nil ?_
    intro vs X hX hA
    rw [(fun (l : List Oper) (h : l.length = 8) => (by rw [h]; rfl : List.range l.length = [0, 1, 2, 3, 4, 5, 6, 7])) _ rfl]
    simp only [List.getD_cons_zero, List.getD_cons_succ, putL, dstOf, List.foldl_nil, List.foldl_cons, List.getElem?_toArray, List.getElem?_cons_zero, List.getElem?_cons_succ, Option.bind_some, Act.put, List.setIfInBounds_toArray, List.set_cons_zero, List.set_cons_succ]
    obtain ⟨lo, eb, u6, leb, llo, ey⟩ : ∃ lo eb, vs 6 = ptr eb ∧ w4.heap.size ≤ eb ∧ lo ≤ X.heap.size ∧ EyeAt lo eb ⟨b, 0⟩ X := hA 6 (by decide)
    obtain ⟨xb, u7, lxb, ex⟩ : ∃ xb, vs 7 = ptr xb ∧ w4.heap.size ≤ xb ∧ RefAt xb ⟨b, 0⟩ X := hA 7 (by decide)
    rw [u6, u7]
    have hne : eb ≠ xb := by rintro rfl; exact eye_not_ref ey ex
    have hBX := hX
    have hx4 : w.heap.size < w4.heap.size := blk_lt hbx4.out
    replace hbx4 := Lib.hid (hbx4.out.below hX (blk_lt hbx4.out))
    have hw4 : w.heap.size ≤ w4.heap.size := BW3.out.size
    have hkp4 : ∀ k, PenM kp rp k → k < w4.heap.size := by
      rintro k (rfl | e)
      · exact hp3.out.lt.1
      · exact (hp3.out.lt.2 k e.symm).1
    replace hp3 := Lib.hid (hp3.out.below hBX)
    replace BW3 := Lib.hid (BW3.out.trans (hBX.mono BW3.out.size))
    clear hBX
    have hbl : (Ey.mk b 0).s.length ≤ 1000000000 := by show b.length ≤ _; omega
    replace ey := Lib.hid ey
    replace ex := Lib.hid ex
    clear u6 u7 hA hX hb4
    go_wp2_with fail
    refine (get_any lo eb ⟨b, 0⟩ X ey.out llo hbl).mono ?_
    rintro e w5 ⟨rfl, hE5, hT5⟩
    have hx5 : RefAt xb ⟨b, 0⟩ w5 := hT5.keep ex.out (fun e => hne e.symm)
    have hp5 : PenAt kp rp P w5 := hp3.out.keep hT5 (fun e => by have e' : kp = eb := e; have := hkp4 kp (.inl rfl); omega) (fun k hk e => by have e' : k = eb := e; have := hkp4 k (.inr hk.symm); omega)
    have hb5 : CellAt w.heap.size 26 c w5 := hT5.keep hbx4.out (fun e => by have e' : w.heap.size = eb := e; omega)
    have BW5 := BW3.out.trans (hT5.below (n := w.heap.size) (fun j hj => by show w.heap.size ≤ j; rw [hj]; omega) BW3.out.size)
    replace hx5 := Lib.hid hx5
    replace hp5 := Lib.hid hp5
    replace hb5 := Lib.hid hb5
    replace BW5 := Lib.hid BW5
    replace hE5 := Lib.hid hE5
    clear ey ex hp3 hbx4 BW3 hT5
    go_wp2_with fail
    refine (refcget_any xb ⟨b, 0⟩ w5 hx5.out hbl).mono ?_
    rintro e w6 ⟨rfl, hx6, hT6⟩
    have hE6 := hE5.out.other hx5.out hT6 hne
    have hp6 : PenAt kp rp P w6 := hp5.out.keep hT6 (fun e => by have e' : kp = xb := e; have := hkp4 kp (.inl rfl); omega) (fun k hk e => by have e' : k = xb := e; have := hkp4 k (.inr hk.symm); omega)
    have hb6 : CellAt w.heap.size 26 c w6 := hT6.keep hb5.out (fun e => by have e' : w.heap.size = xb := e; omega)
    have BW6 := BW5.out.trans (hT6.below (n := w.heap.size) (fun j hj => by show w.heap.size ≤ j; rw [hj]; omega) BW5.out.size)
    replace hx6 := Lib.hid hx6
    replace hp6 := Lib.hid hp6
    replace hb6 := Lib.hid hb6
    replace BW6 := Lib.hid BW6
    replace hE6 := Lib.hid hE6
    clear hx5 hp5 hb5 BW5 hE5 hT6
    have hgok : (Ey.mk b 0).cell.1.m.length = 16 := Ey.cell_m ⟨b, 0⟩
    obtain ⟨gc, hgc⟩ : ∃ gc, (Ey.mk b 0).cell = gc := ⟨_, rfl⟩
    rw [hgc] at hx6 hE6 hgok ⊢
    obtain ⟨g, E⟩ := gc
    dsimp only at hx6 hE6 hgok ⊢
    clear hgc
    have z1 : CellAt w6.heap.size 26 Ce.zero ((w6.alloc (.cells zeroCells 26)).alloc (.cells zeroCells 26)) := (Below.heap_alloc _ _ _ (by simp)).trans (World.alloc_heap_new _ _)
    have z2 : CellAt (w6.heap.size + 1) 26 Ce.zero ((w6.alloc (.cells zeroCells 26)).alloc (.cells zeroCells 26)) := by
      unfold CellAt
      rw [show w6.heap.size + 1 = (w6.alloc (.cells zeroCells 26)).heap.size by simp]
      exact World.alloc_heap_new _ _
    have hB7 : Below w6.heap.size w6 ((w6.alloc (.cells zeroCells 26)).alloc (.cells zeroCells 26)) := ((Below.refl _ _).alloc (Nat.le_refl _) _).alloc (by simp) _
    obtain ⟨s1, y1⟩ := z1.store (c := g) rfl hgok
    have z3 : CellAt (w6.heap.size + 1) 26 Ce.zero (((w6.alloc (.cells zeroCells 26)).alloc (.cells zeroCells 26)).setCells w6.heap.size 0 g.vals) := (heap_setCells_ne _ _ _ _ _ (by omega)).trans z2
    obtain ⟨s2, y2⟩ := z3.store (c := g) rfl hgok
    have y3 : CellAt w6.heap.size 26 g ((((w6.alloc (.cells zeroCells 26)).alloc (.cells zeroCells 26)).setCells w6.heap.size 0 g.vals).setCells (w6.heap.size + 1) 0 g.vals) := (heap_setCells_ne _ _ _ _ _ (by omega)).trans y1
    have hB8 := Below.setCells (Below.setCells hB7 w6.heap.size 0 g.vals (Nat.le_refl _)) (w6.heap.size + 1) 0 g.vals (by omega)
    have hs6 : w6.heap.size + 1 < ((((w6.alloc (.cells zeroCells 26)).alloc (.cells zeroCells 26)).setCells w6.heap.size 0 g.vals).setCells (w6.heap.size + 1) 0 g.vals).heap.size := blk_lt y2
    have hb7 := hb6.out.below hB8 (blk_lt hb6.out)
    have hp7 := hp6.out.below hB8
    have hx7 := hx6.out.below hB8
    have hE7 := hE6.out.below hB8
    have BW7 := BW6.out.trans (hB8.mono BW6.out.size)
    replace y2 := Lib.hid y2
    replace y3 := Lib.hid y3
    replace hb7 := Lib.hid hb7
    replace hp7 := Lib.hid hp7
    replace hx7 := Lib.hid hx7
    replace hE7 := Lib.hid hE7
    replace BW7 := Lib.hid BW7
    clear z1 z2 z3 y1 hB7 hB8 hb6 hp6 hx6 hE6 BW6
    go_wp2_with (first | (refine wpList_store_at rfl _ _ _ rfl rfl rfl (s1) ?_) | (refine wpList_store_at rfl _ _ _ rfl rfl rfl (s2) ?_))
    clear s1 s2
    generalize (((w6.alloc (.cells zeroCells 26)).alloc (.cells zeroCells 26)).setCells w6.heap.size 0 g.vals).setCells (w6.heap.size + 1) 0 g.vals = w7 at *
    generalize w6.heap.size = k6 at *
    have kr2 := fun X => refright_any c hc.out X
    rw [show decide (-1048576 ≤ c.n ∧ c.n ≤ 1048576) = c.right from rfl, hr.out] at kr2
    unfold cellV at kr2
    have eqc : ∀ (x y : Operand) X, (do eqGuard .eql 26 x y (.agg g.vals.toArray) (.agg g.vals.toArray); binOp .eql 26 (.agg g.vals.toArray) (.agg g.vals.toArray) : Sem Value).run Try.prog X = .ok (.bool true) X := fun x y X => by
      have h := eqv_cell g g hgok hgok x y X
      rw [Ce.eq_self] at h
      exact h
    have kby := fun X (hX : Below w7.heap.size w7 X) => bytes_any kp rp P X (hp7.out.below hX) (by omega)
    have ker : ∀ X, Below w7.heap.size w7 X → Calls Try.prog 31 #[ptr eb] X fun e w' => e = .returned (.int .i64 E.e) ∧ Below X.heap.size X w' := fun X hX => (err_any eb E X (hE7.out.below hX)).mono (fun e w' h => by obtain ⟨rfl, rfl⟩ := h; exact ⟨rfl, Below.refl _ _⟩)
    have kle : ∀ X, Below w7.heap.size w7 X → Calls Try.prog 32 #[ptr eb] X fun e w' => e = .returned (.int .i64 (E.s.length : Int)) ∧ Below X.heap.size X w' := fun X hX => (left_any eb E X (hE7.out.below hX)).mono (fun e w' h => by obtain ⟨rfl, rfl⟩ := h; exact ⟨rfl, Below.refl _ _⟩)
    replace kr2 := Lib.hid kr2
    replace eqc := Lib.hid eqc
    replace kby := Lib.hid kby
    replace ker := Lib.hid ker
    replace kle := Lib.hid kle
    clear hp7 hE7 kr
    go_wp2_with fail
    refine wp_region_grow [[], [], [1], [0, 2], [3], [4], [4, 5], [4, 6], [4], [4, 7, 8], [4, 9], [10], [11], [11], [11, 12, 13], [11, 14], [15], [16], [16, 17], [16], [16, 19], [16, 20], [16, 21], [16, 18, 22], [16, 23], [24], [25], [25, 26], [25], [25, 28], [25, 29], [25, 30], [25, 31], [25, 27, 32], [25, 33], [34]] (by kernel_rfl) (by kernel_rfl) (by kernel_rfl) (Nat.zero_lt_succ _) ?_
    iterate 6
      (apply steps_fx
       · intro vs X hC hB hA
         try simp only [List.cons_append, List.nil_append, List.getD_cons_zero, List.getD_cons_succ, List.forall_mem_cons, List.not_mem_nil, false_implies, implies_true, and_true] at hA
         simp only [List.getD_cons_zero, List.getD_cons_succ, putL, dstOf, List.foldl_nil, List.foldl_cons, List.getElem?_toArray, List.getElem?_cons_zero, List.getElem?_cons_succ, Option.bind_some, Act.put, List.setIfInBounds_toArray, List.set_cons_zero, List.set_cons_succ]
         try simp only [hA]
         go_wp2_with (first | (refine wpList_load_w rfl rfl ((hb7.out.below hC (blk_lt hb7.out)).whole hc.out.m) (by first | rfl | (go_simp; done)) ?_))
         first
         | exact ⟨_, rfl, Below.refl _ _, rfl⟩
         | ((with_reducible refine (kr2.out X).mono ?_); rintro e w' ⟨rfl, hB⟩; go_wp2_with fail; exact ⟨_, rfl, hB, rfl⟩)
       simp only [List.cons_append, List.nil_append])
    refine steps_pr ((fun v X => OwnB X v P)) (by intro j v X Y _ _ _ _ _ hG h; exact h.kept (fun g hg => hG.block g (h.lt hg))) ?_ ?_
    · intro vs X hC hB hA
      try simp only [List.cons_append, List.nil_append, List.getD_cons_zero, List.getD_cons_succ, List.forall_mem_cons, List.not_mem_nil, false_implies, implies_true, and_true] at hA
      simp only [List.getD_cons_zero, List.getD_cons_succ, putL, dstOf, List.foldl_nil, List.foldl_cons, List.getElem?_toArray, List.getElem?_cons_zero, List.getElem?_cons_succ, Option.bind_some, Act.put, List.setIfInBounds_toArray, List.set_cons_zero, List.set_cons_succ]
      try simp only [hA]
      go_wp2_with fail
      refine (kby.out X hC).mono ?_
      rintro e w' ⟨vb, rfl, hO, -, hB⟩
      go_wp2_with fail
      exact ⟨_, rfl, hB, hO⟩
    simp only [List.cons_append, List.nil_append]
    apply steps_fx
    · intro vs X hC hB hA
      try simp only [List.cons_append, List.nil_append, List.getD_cons_zero, List.getD_cons_succ, List.forall_mem_cons, List.not_mem_nil, false_implies, implies_true, and_true] at hA
      simp only [List.getD_cons_zero, List.getD_cons_succ, putL, dstOf, List.foldl_nil, List.foldl_cons, List.getElem?_toArray, List.getElem?_cons_zero, List.getElem?_cons_succ, Option.bind_some, Act.put, List.setIfInBounds_toArray, List.set_cons_zero, List.set_cons_succ]
      try simp only [hA]
      have hcv := conv_bytes hA.2.at
      go_wp2_with fail
      exact ⟨_, rfl, Below.refl _ _, rfl⟩
    simp only [List.cons_append, List.nil_append]
    repeat
      (apply steps_fx
       · intro vs X hC hB hA
         try simp only [List.cons_append, List.nil_append, List.getD_cons_zero, List.getD_cons_succ, List.forall_mem_cons, List.not_mem_nil, false_implies, implies_true, and_true] at hA
         simp only [List.getD_cons_zero, List.getD_cons_succ, putL, dstOf, List.foldl_nil, List.foldl_cons, List.getElem?_toArray, List.getElem?_cons_zero, List.getElem?_cons_succ, Option.bind_some, Act.put, List.setIfInBounds_toArray, List.set_cons_zero, List.set_cons_succ]
         try simp only [hA]
         have ad0 := (RefAt.cells (hx7.out.below hC)).1
         have ad1 := (RefAt.cells (hx7.out.below hC)).2.1
         go_wp2_with (first | (refine wpList_load_w rfl rfl ((y3.out.below hC (blk_lt y3.out)).whole hgok) (by first | rfl | (go_simp; done)) ?_) | (refine wpList_load_w rfl rfl ((y2.out.below hC (blk_lt y2.out)).whole hgok) (by first | rfl | (go_simp; done)) ?_) | (refine wpList_bin_w rfl rfl rfl (eqc.out _ _ X) (by first | rfl | (go_simp; done)) ?_))
         first
         | exact ⟨_, rfl, Below.refl _ _, rfl⟩
         | ((with_reducible refine (ker.out X hC).mono ?_); rintro e w' ⟨rfl, hB⟩; go_wp2_with fail; exact ⟨_, rfl, hB, rfl⟩)
         | ((with_reducible refine (kle.out X hC).mono ?_); rintro e w' ⟨rfl, hB⟩; go_wp2_with fail; exact ⟨_, rfl, hB, rfl⟩)
       simp only [List.cons_append, List.nil_append])
    refine steps_nil ?_
    intro vs X hC hA
    rw [(fun (l : List Oper) (h : l.length = 36) => (by rw [h]; rfl : List.range l.length = [0, 1, 2, 3, 4, 5, 6, 7, 8, 9, 10, 11, 12, 13, 14, 15, 16, 17, 18, 19, 20, 21, 22, 23, 24, 25, 26, 27, 28, 29, 30, 31, 32, 33, 34, 35])) _ rfl]
    simp only [List.getD_cons_zero, List.getD_cons_succ, putL, dstOf, List.foldl_nil, List.foldl_cons, List.getElem?_toArray, List.getElem?_cons_zero, List.getElem?_cons_succ, Option.bind_some, Act.put, List.setIfInBounds_toArray, List.set_cons_zero, List.set_cons_succ]
    have e35 : vs 35 = .bool true := hA 35 (by decide)
    rw [e35]
    clear hA e35
    have hB := BW7.out.trans (hC.mono BW7.out.size)
    go_wp2_with fail
    go_ret
    exact ⟨rfl, hB⟩
end Go.Proofs.Ytkdbbdlkfpjdfaa
