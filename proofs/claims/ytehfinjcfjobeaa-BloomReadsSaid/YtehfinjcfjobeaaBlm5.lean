/- Law BloomReads: the walk.
   Conditions: those that each theorem names. -/
import Derived.Test.YtehfinjcfjobeaaBlm3
import Derived.Test.YtehfinjcfjobeaaStmt
import Derived.IntWalk
namespace Go.Proofs.Ytehfinjcfjobeaa
set_option maxRecDepth 100000
set_option linter.unusedVariables false
set_option linter.unusedSimpArgs false
open Go.RowKit Go.Rg
set_option linter.unusedVariables false
theorem EyeAt.other {lo eb xb : Nat} {y x : Ey} {X Y : World} (h : EyeAt lo eb y X) (hr : RefAt xb x X) (hT : Touch (fun k => k = xb) X Y) (hne : eb ≠ xb) : EyeAt lo eb y Y := by
  obtain ⟨p, cap, hc, h1, h2, h3⟩ := h
  refine ⟨p, cap, hc, hT.keep h1 hne, ?_, fun a ha => ⟨(h3 a ha).1, Nat.lt_of_lt_of_le (h3 a ha).2.1 hT.size, (h3 a ha).2.2⟩⟩
  by_cases h0 : y.s.length = 0
  · exact BytesAt.none _ _ _ _ _ h0 h0
  obtain ⟨p', cap', hv, hf⟩ := h2
  obtain ⟨g, o, e1, hg, hcc⟩ := hf 0 (by omega)
  cases hv
  subst e1
  have hgx : g ≠ xb := by
    rintro rfl
    have hr' : X.heap[g]? = some (.cells #[str x.s, .int .i64 x.e] 54 (0, 0)) := hr
    simp only [World.cell?, hr'] at hcc
    rcases o with _ | _ | o
    · simp at hcc
    · simp at hcc
    · simp at hcc
  refine BytesAt.kept ⟨_, _, rfl, hf⟩ ?_ hT.size
  rintro k hk hlt
  cases hk
  exact hT.block _ hlt hgx
theorem eye_not_ref {lo b : Nat} {y x : Ey} {X : World} (h : EyeAt lo b y X) (hr : RefAt b x X) : False := by
  obtain ⟨p, cap, hc, h1, h2, h3⟩ := h
  have := h1.symm.trans (show X.heap[b]? = _ from hr)
  simp at this
theorem row_not_ref {b : Nat} {x : Ey} {X : World} {v : Value} {l : List UInt8} (h : OwnB X v l) (hr : RefAt b x X) : v.ownBlock ≠ some b := fun e => by
  obtain ⟨c, hc⟩ := row_block h e
  have := hc.symm.trans (show X.heap[b]? = _ from hr)
  simp at this
theorem Ey.fail_e (x : Ey) (f : Int) (hf : f ≠ 0) : (x.fail f).e ≠ 0 := by
  unfold Ey.fail
  split
  · exact hf
  · rename_i h
    intro e
    exact h ⟨e, hf⟩
theorem Ey.fixed_ok (y : Ey) (n : Nat) (h : (y.fixed (n : Int)).2.e = 0) : y.e = 0 ∧ (y.fixed (n : Int)).1.length = n := by
  unfold Ey.fixed at h ⊢
  by_cases h0 : y.e = 0
  · rw [if_neg (by simp [h0]), if_neg (by omega)] at h ⊢
    by_cases h1 : (y.s.length : Int) < (n : Int)
    · rw [if_pos h1] at h
      exact absurd h (Ey.fail_e y 10 (by decide))
    · rw [if_neg h1]
      refine ⟨h0, ?_⟩
      simp; omega
  · rw [if_pos h0] at h
    exact absurd h h0
theorem flt_fits (x : Ey) (h : x.flt.2.e = 0) : fitsB ((8 * x.flt.1.length : Nat) : Int) := by
  unfold Ey.flt at h ⊢
  have hle : (x.number 1024).1 ≤ 1024 := x.number_le 1024
  obtain ⟨h1, h2⟩ := Ey.fixed_ok _ _ h
  rw [h2]
  by_cases hc : (x.number 1024).2.e = 0 ∧ (x.number 1024).1 < 8
  · rw [if_pos hc] at h1
    exact absurd h1 (Ey.fail_e _ 11 (by decide))
  · rw [if_neg hc] at h1
    have : ¬ (x.number 1024).1 < 8 := fun h8 => hc ⟨h1, h8⟩
    exact ⟨by omega, by omega, by omega⟩
theorem flt_len (x : Ey) : x.flt.1.length ≤ 1024 := by
  unfold Ey.flt
  exact Nat.le_trans (Ey.fixed_upto' _ _) (x.number_le 1024)
set_option maxHeartbeats 4000000 in
theorem breads_walk (v0 v1 : Value) (b : List UInt8) (L : List (List UInt8)) (w : World) (hb : BytesAt w v0 b) (hL : MarksAt w v1 L) (h16 : Marks16 L) :
    Calls Try.prog 6 #[v0, v1] w fun e w' => e = .returned (.bool true) ∧ Below w.heap.size w w' := by
  obtain ⟨pb, cb, rfl⟩ := hb.shape
  obtain ⟨pl, cl, rfl, hcl, _⟩ := id hL
  replace hb := Lib.hid hb
  replace hL := Lib.hid hL
  replace h16 := Lib.hid h16
  go_enter Try.func6, Try.ntmps6
  go_wp2_with fail
  refine (first15 w).mono ?_
  rintro e w1 ⟨rfl, hB1⟩
  by_cases h1 : 2000 < b.length
  · have e1 : decide ((2000 : Int) < (b.length : Int)) = true := decide_eq_true (by omega)
    go_wp2_with fail
    go_ret
    exact ⟨rfl, hB1⟩
  have e1 : decide ((2000 : Int) < (b.length : Int)) = false := decide_eq_false (by omega)
  by_cases h2 : 60 < L.length
  · have e2 : decide ((60 : Int) < (L.length : Int)) = true := decide_eq_true (by omega)
    go_wp2_with fail
    go_ret
    exact ⟨rfl, hB1⟩
  have e2 : decide ((60 : Int) < (L.length : Int)) = false := decide_eq_false (by omega)
  have hb1 := hb.out.below hB1
  replace hb1 := Lib.hid hb1
  replace hB1 := Lib.hid hB1
  go_wp2_with fail
  refine wp_region_vals [[], [0], [], [2], [3], [4], [1], [5]] (fun X => Below w1.heap.size w1 X) (fun X Y => Below X.heap.size X Y) (by kernel_rfl) (by kernel_rfl) (by kernel_rfl) (Below.drew (Below.refl _ _)) (fun X Y hC hG => hC.trans (hG.mono hC.size)) ?_
  iterate 1
    (apply vals_fx
     · intro vs X hX hA
       try simp only [List.cons_append, List.nil_append, List.getD_cons_zero, List.getD_cons_succ, List.forall_mem_cons, List.not_mem_nil, false_implies, implies_true, and_true] at hA
       simp only [List.getD_cons_zero, List.getD_cons_succ, putL, dstOf, List.foldl_nil, List.foldl_cons, List.getElem?_toArray, List.getElem?_cons_zero, List.getElem?_cons_succ, Option.bind_some, Act.put, List.setIfInBounds_toArray, List.set_cons_zero, List.set_cons_succ]
       try simp only [hA]
       go_wp2_with fail
       exact ⟨_, rfl, Below.refl _ _, rfl⟩
     simp only [List.cons_append, List.nil_append])
  apply vals_pr (fun v X => ∃ lo eb, v = ptr eb ∧ w1.heap.size ≤ eb ∧ EyeAt lo eb ⟨b, 0⟩ X) (by rintro v X Y _ hG ⟨lo, eb, e, h, hE⟩; exact ⟨lo, eb, e, h, hE.below hG⟩)
  · intro vs X hX hA
    try simp only [List.cons_append, List.nil_append, List.getD_cons_zero, List.getD_cons_succ, List.forall_mem_cons, List.not_mem_nil, false_implies, implies_true, and_true] at hA
    simp only [List.getD_cons_zero, List.getD_cons_succ, putL, dstOf, List.foldl_nil, List.foldl_cons, List.getElem?_toArray, List.getElem?_cons_zero, List.getElem?_cons_succ, Option.bind_some, Act.put, List.setIfInBounds_toArray, List.set_cons_zero, List.set_cons_succ]
    try simp only [hA]
    go_wp2_with fail
    refine (read_any _ b X (hb1.out.below hX) (by omega)).mono ?_
    rintro e w2 ⟨eb, rfl, leb, ey, hB2⟩
    go_wp2_with fail
    exact ⟨_, rfl, hB2, _, eb, rfl, Nat.le_trans hX.size leb, ey⟩
  simp only [List.cons_append, List.nil_append]
  iterate 1
    (apply vals_fx
     · intro vs X hX hA
       try simp only [List.cons_append, List.nil_append, List.getD_cons_zero, List.getD_cons_succ, List.forall_mem_cons, List.not_mem_nil, false_implies, implies_true, and_true] at hA
       simp only [List.getD_cons_zero, List.getD_cons_succ, putL, dstOf, List.foldl_nil, List.foldl_cons, List.getElem?_toArray, List.getElem?_cons_zero, List.getElem?_cons_succ, Option.bind_some, Act.put, List.setIfInBounds_toArray, List.set_cons_zero, List.set_cons_succ]
       try simp only [hA]
       go_wp2_with fail
       exact ⟨_, rfl, Below.refl _ _, rfl⟩
     simp only [List.cons_append, List.nil_append])
  apply vals_fx
  · intro vs X hX hA
    try simp only [List.cons_append, List.nil_append, List.getD_cons_zero, List.getD_cons_succ, List.forall_mem_cons, List.not_mem_nil, false_implies, implies_true, and_true] at hA
    simp only [List.getD_cons_zero, List.getD_cons_succ, putL, dstOf, List.foldl_nil, List.foldl_cons, List.getElem?_toArray, List.getElem?_cons_zero, List.getElem?_cons_succ, Option.bind_some, Act.put, List.setIfInBounds_toArray, List.set_cons_zero, List.set_cons_succ]
    try simp only [hA]
    have hcv := conv_bytes (hb1.out.below hX)
    go_wp2_with fail
    exact ⟨_, rfl, Below.refl _ _, rfl⟩
  simp only [List.cons_append, List.nil_append]
  iterate 1
    (apply vals_fx
     · intro vs X hX hA
       try simp only [List.cons_append, List.nil_append, List.getD_cons_zero, List.getD_cons_succ, List.forall_mem_cons, List.not_mem_nil, false_implies, implies_true, and_true] at hA
       simp only [List.getD_cons_zero, List.getD_cons_succ, putL, dstOf, List.foldl_nil, List.foldl_cons, List.getElem?_toArray, List.getElem?_cons_zero, List.getElem?_cons_succ, Option.bind_some, Act.put, List.setIfInBounds_toArray, List.set_cons_zero, List.set_cons_succ]
       try simp only [hA]
       go_wp2_with fail
       exact ⟨_, rfl, Below.refl _ _, rfl⟩
     simp only [List.cons_append, List.nil_append])
  apply vals_pr (fun v X => ∃ xb, v = ptr xb ∧ w1.heap.size ≤ xb ∧ RefAt xb ⟨b, 0⟩ X) (by rintro v X Y _ hG ⟨eb, e, h, hE⟩; exact ⟨eb, e, h, hE.below hG⟩)
  · intro vs X hX hA
    try simp only [List.cons_append, List.nil_append, List.getD_cons_zero, List.getD_cons_succ, List.forall_mem_cons, List.not_mem_nil, false_implies, implies_true, and_true] at hA
    simp only [List.getD_cons_zero, List.getD_cons_succ, putL, dstOf, List.foldl_nil, List.foldl_cons, List.getElem?_toArray, List.getElem?_cons_zero, List.getElem?_cons_succ, Option.bind_some, Act.put, List.setIfInBounds_toArray, List.set_cons_zero, List.set_cons_succ]
    try simp only [hA]
    go_wp2_with fail
    exact ⟨_, rfl, (Below.refl _ _).alloc (Nat.le_refl _) _, _, rfl, hX.size, World.alloc_heap_new _ _⟩
  simp only [List.cons_append, List.nil_append]
  apply vals_pr (fun v X => ∃ lo eb, v = ptr eb ∧ w1.heap.size ≤ eb ∧ EyeAt lo eb ⟨b, 0⟩ X) (by rintro v X Y _ hG ⟨lo, eb, e, h, hE⟩; exact ⟨lo, eb, e, h, hE.below hG⟩)
  · intro vs X hX hA
    try simp only [List.cons_append, List.nil_append, List.getD_cons_zero, List.getD_cons_succ, List.forall_mem_cons, List.not_mem_nil, false_implies, implies_true, and_true] at hA
    simp only [List.getD_cons_zero, List.getD_cons_succ, putL, dstOf, List.foldl_nil, List.foldl_cons, List.getElem?_toArray, List.getElem?_cons_zero, List.getElem?_cons_succ, Option.bind_some, Act.put, List.setIfInBounds_toArray, List.set_cons_zero, List.set_cons_succ]
    try simp only [hA]
    obtain ⟨lo, eb, e3, leb, ey⟩ := hA
    rw [e3]
    go_wp2_with fail
    exact ⟨_, rfl, Below.refl _ _, lo, eb, rfl, leb, ey⟩
  simp only [List.cons_append, List.nil_append]
  apply vals_pr (fun v X => ∃ xb, v = ptr xb ∧ w1.heap.size ≤ xb ∧ RefAt xb ⟨b, 0⟩ X) (by rintro v X Y _ hG ⟨eb, e, h, hE⟩; exact ⟨eb, e, h, hE.below hG⟩)
  · intro vs X hX hA
    try simp only [List.cons_append, List.nil_append, List.getD_cons_zero, List.getD_cons_succ, List.forall_mem_cons, List.not_mem_nil, false_implies, implies_true, and_true] at hA
    simp only [List.getD_cons_zero, List.getD_cons_succ, putL, dstOf, List.foldl_nil, List.foldl_cons, List.getElem?_toArray, List.getElem?_cons_zero, List.getElem?_cons_succ, Option.bind_some, Act.put, List.setIfInBounds_toArray, List.set_cons_zero, List.set_cons_succ]
    try simp only [hA]
    obtain ⟨eb, e3, leb, ey⟩ := hA
    rw [e3]
    go_wp2_with fail
    exact ⟨_, rfl, Below.refl _ _, eb, rfl, leb, ey⟩
  simp only [List.cons_append, List.nil_append]
  refine vals_nil ?_
  intro vs X hX hA
  rw [(fun (l : List Oper) (h : l.length = 8) => (by rw [h]; rfl : List.range l.length = [0, 1, 2, 3, 4, 5, 6, 7])) _ rfl]
  simp only [List.getD_cons_zero, List.getD_cons_succ, putL, dstOf, List.foldl_nil, List.foldl_cons, List.getElem?_toArray, List.getElem?_cons_zero, List.getElem?_cons_succ, Option.bind_some, Act.put, List.setIfInBounds_toArray, List.set_cons_zero, List.set_cons_succ]
  obtain ⟨lo, eb, u6, leb, ey⟩ : ∃ lo eb, vs 6 = ptr eb ∧ w1.heap.size ≤ eb ∧ EyeAt lo eb ⟨b, 0⟩ X := hA 6 (by decide)
  obtain ⟨xb, u7, lxb, ex⟩ : ∃ xb, vs 7 = ptr xb ∧ w1.heap.size ≤ xb ∧ RefAt xb ⟨b, 0⟩ X := hA 7 (by decide)
  rw [u6, u7]
  have hne : eb ≠ xb := by rintro rfl; exact eye_not_ref ey ex
  have BW := hB1.out.trans (hX.mono hB1.out.size)
  have hwe : w.heap.size ≤ eb := Nat.le_trans hB1.out.size leb
  have hwx : w.heap.size ≤ xb := Nat.le_trans hB1.out.size lxb
  have hxX : xb < X.heap.size := blk_lt ex
  have hbl : (Ey.mk b 0).s.length ≤ 1000000000 := by show b.length ≤ _; omega
  replace ey := Lib.hid ey
  replace ex := Lib.hid ex
  replace BW := Lib.hid BW
  clear u6 u7 hA hX leb lxb hb1 hB1
  go_wp2_with fail
  refine (bget_any eb ⟨b, 0⟩ X ey.out hbl).mono ?_
  rintro e w2 ⟨fv, rfl, hf1, hf2, hE2, hT2⟩
  have hx2 : RefAt xb ⟨b, 0⟩ w2 := hT2.keep ex.out (fun e => hne e.symm)
  have BW2 := BW.out.trans (hT2.below (n := w.heap.size) (fun j hj => hj ▸ hwe) BW.out.size)
  have hs2 : X.heap.size ≤ w2.heap.size := hT2.size
  replace hx2 := Lib.hid hx2
  replace BW2 := Lib.hid BW2
  replace hE2 := Lib.hid hE2
  replace hf1 := Lib.hid hf1
  replace hf2 := Lib.hid hf2
  clear ey ex BW hT2
  go_wp2_with fail
  refine (refget15 xb ⟨b, 0⟩ w2 hx2.out hbl).mono ?_
  rintro e w3 ⟨rv, rfl, hrow, hx3, hT3⟩
  have hE3 := hE2.out.other hx2.out hT3 hne
  have BW3 := BW2.out.trans (hT3.below (n := w.heap.size) (fun j hj => hj ▸ hwx) BW2.out.size)
  have hfits := flt_fits ⟨b, 0⟩
  have hfl := flt_len ⟨b, 0⟩
  have hf3 : (Ey.mk b 0).flt.2.e = 0 → ∃ k vf, fv = ptr k ∧ FltAt k vf (Ey.mk b 0).flt.1 w3 := fun h => by
    obtain ⟨k, vf, e, hF, hk, hg⟩ := hf2.out h
    exact ⟨k, vf, e, hF.touch hT3 (fun e => by have : k = xb := e; omega) (fun g hg' e => by have : g = xb := e; have := hg g hg'; omega)⟩
  have hLm := hL.out.below BW3
  generalize (Ey.mk b 0).flt = R at *
  obtain ⟨s, E⟩ := R
  dsimp only at hf1 hf3 hE3 hrow hx3 hfits hfl
  have hbv : (boolsV (bitsOf s)).length = 8 * s.length := by rw [boolsV_length, bitsOf_length]
  obtain ⟨pr, cr, rfl, hcr, _, _⟩ := hrow.shape
  rw [hbv] at hrow ⊢
  replace BW3 := Lib.hid BW3
  replace hE3 := Lib.hid hE3
  replace hrow := Lib.hid hrow
  replace hx3 := Lib.hid hx3
  replace hLm := Lib.hid hLm
  clear hT3 hx2 BW2 hE2 hf2 hbv hcr
  by_cases he : E.e = 0
  · obtain ⟨k, vf, rfl, hF⟩ := hf3 he
    have hfit := hfits he
    have e4 : (E.e != 0) = false := by simp [he]
    have lc0 : ∀ X, Below w3.heap.size w3 X → X.cell? ⟨xb, 0, none⟩ = some (str E.s) := fun X hX => (RefAt.cells (hx3.out.below hX)).1
    have lc1 : ∀ X, Below w3.heap.size w3 X → X.cell? ⟨xb, 1, none⟩ = some (.int .i64 E.e) := fun X hX => (RefAt.cells (hx3.out.below hX)).2.1
    have ke := fun X (hX : Below w3.heap.size w3 X) => err_any eb E X (hE3.out.below hX)
    have kl := fun X (hX : Below w3.heap.size w3 X) => left_any eb E X (hE3.out.below hX)
    replace hF := Lib.hid hF
    replace hfit := Lib.hid hfit
    replace ke := Lib.hid ke
    replace kl := Lib.hid kl
    replace he := Lib.hid he
    clear hf1 hf3 hfits
    go_wp2_with fail
    refine wp_region_calm_lit (by kernel_rfl) (by kernel_rfl) ?_
    repeat
      first
      | (apply calm_want
         · first | rfl | (go_simp; done)
         · intro X hX
           go_simp
           first
             | done
             | rfl
             | (refine ⟨trivial, ?_⟩; (first | with_reducible exact calls_calm_same hX (ke.out X hX) | with_reducible exact calls_calm_same hX (kl.out X hX)); done)
             | ((first | with_reducible exact calls_calm_same hX (ke.out X hX) | with_reducible exact calls_calm_same hX (kl.out X hX)); done)
         intro K hK
         go_simp
         refine hK _ ?_
         clear hK K)
      | (apply calm_skip
         · first | rfl | (go_simp; done)
         intro K hK
         go_simp
         refine hK _ ?_
         clear hK K)
    refine wpQuiet_nil ?_
    intro X hX
    clear lc0 lc1 ke kl hE3 hx3 e4
    replace hrow := Lib.hid (hrow.out.below hX)
    replace hLm := Lib.hid (hLm.out.below hX)
    replace hF := Lib.hid (hF.out.below hX)
    replace BW3 := Lib.hid (BW3.out.trans (hX.mono BW3.out.size))
    clear hX
    generalize X = w4 at *
    go_wp2_with fail
    go_loopw [10, 60] (fun _ c wr => ∃ i : Nat, i ≤ L.length ∧ c = .int .i64 i ∧ Hid (Below w4.heap.size w4 wr)) (fun _ c _ => L.length - (intOf c).toNat)
    case atStart => exact ⟨0, by omega, rfl, Lib.hid (Below.refl _ _)⟩
    case round =>
      obtain ⟨i, hi, rfl, HW⟩ := hrel
      by_cases hil : i < L.length
      · have e5 : decide ((i : Int) < (L.length : Int)) = true := decide_eq_true (by omega)
        obtain ⟨m, hm⟩ : ∃ m, L[i]? = some m := ⟨_, List.getElem?_eq_getElem hil⟩
        have hm16 := h16.out m (List.mem_of_getElem? hm)
        obtain ⟨g, o, hpe, _, hld⟩ := (hLm.out.below HW.out).load h16.out hm
        subst hpe
        have hL2 := hld wr (Below.refl _ _)
        have bm := boxedM wr m hm16
        have a1 := bm.a1
        have hbx := bm.b
        have B5 := HW.out.trans (bm.B.mono HW.out.size)
        replace hbx := Lib.hid hbx
        replace B5 := Lib.hid B5
        clear bm hld hm HW
        go_wp2_with (first | (refine wpList_load_at rfl _ _ rfl rfl (hL2) ?_) | (refine wpList_store_at rfl _ _ _ rfl rfl rfl (a1) ?_))
        clear hL2 a1
        generalize (wr.alloc (.cells zeroMark 24)).setCells wr.heap.size 0 (m.map byteV) = w5 at *
        generalize wr.heap.size = kx at *
        have lx := fun X (hX : Below w5.heap.size w5 X) => mark_whole ((hX.block _ (blk_lt hbx.out)).trans hbx.out) hm16
        have km1 := fun X (hX : Below w5.heap.size w5 X) => bmay_any k vf s m X (hF.out.below (B5.out.trans (hX.mono B5.out.size))) hfit.out hm16
        have km2 := fun X (hX : Below w5.heap.size w5 X) => refmay_any _ s m X (hrow.out.below (B5.out.trans (hX.mono B5.out.size))).at hfit.out hm16
        unfold markV at km1 km2
        replace lx := Lib.hid lx
        replace km1 := Lib.hid km1
        replace km2 := Lib.hid km2
        replace hm16 := Lib.hid hm16
        go_wp2_with fail
        refine wp_region_calm_lit (by kernel_rfl) (by kernel_rfl) ?_
        repeat
          first
          | (apply calm_want
             · first | rfl | (go_simp; done)
             · intro X hX
               first
               | exact calm_load rfl rfl (lx.out X hX) hX
               | (go_simp
                  first
                    | done
                    | rfl
                    | (refine ⟨trivial, ?_⟩; (first | with_reducible exact calls_calm hX (km1.out X hX) | with_reducible exact calls_calm hX (km2.out X hX)); done)
                    | ((first | with_reducible exact calls_calm hX (km1.out X hX) | with_reducible exact calls_calm hX (km2.out X hX)); done))
             intro K hK
             go_simp
             refine hK _ ?_
             clear hK K)
          | (apply calm_skip
             · first | rfl | (go_simp; done)
             intro K hK
             go_simp
             refine hK _ ?_
             clear hK K)
        refine wpQuiet_nil ?_
        intro X hX
        have B6 := Lib.hid (B5.out.trans (hX.mono B5.out.size))
        clear lx km1 km2 hX B5
        go_wp2_with fail
        go_roundw
        case rel => exact ⟨i + 1, by omega, by go_num, B6⟩
        case measure => simp [intOf]; omega
      · have e5 : decide ((i : Int) < (L.length : Int)) = false := decide_eq_false (by omega)
        have hX := HW.out
        replace hrow := Lib.hid (hrow.out.below hX)
        replace hF := Lib.hid (hF.out.below hX)
        replace BW3 := Lib.hid (BW3.out.trans (hX.mono BW3.out.size))
        clear hX
        go_wp2_with fail
        refine (lawbytes_any k vf s wr hF.out (by omega)).mono ?_
        rintro e w6 ⟨rfl, hB⟩
        replace hrow := Lib.hid (hrow.out.below hB)
        replace hF := Lib.hid (hF.out.below hB)
        replace BW3 := Lib.hid (BW3.out.trans (hB.mono BW3.out.size))
        clear hB
        go_wp2_with fail
        refine (refbytes15 _ s w6 hrow.out.at hfl).mono ?_
        rintro e w7 ⟨rfl, hB⟩
        replace hrow := Lib.hid (hrow.out.below hB)
        replace hF := Lib.hid (hF.out.below hB)
        replace BW3 := Lib.hid (BW3.out.trans (hB.mono BW3.out.size))
        clear hB
        go_wp2_with fail
        refine (bbits_any k vf s w7 hF.out (by omega)).mono ?_
        rintro e w' ⟨rfl, rfl⟩
        go_wp2_with fail
        go_ret
        exact ⟨rfl, BW3.out⟩
  · have hnil := hf1.out he
    subst hnil
    have e4 : (E.e != 0) = true := by simp [he]
    have lc0 : ∀ X, Below w3.heap.size w3 X → X.cell? ⟨xb, 0, none⟩ = some (str E.s) := fun X hX => (RefAt.cells (hx3.out.below hX)).1
    have lc1 : ∀ X, Below w3.heap.size w3 X → X.cell? ⟨xb, 1, none⟩ = some (.int .i64 E.e) := fun X hX => (RefAt.cells (hx3.out.below hX)).2.1
    have ke := fun X (hX : Below w3.heap.size w3 X) => err_any eb E X (hE3.out.below hX)
    have kl := fun X (hX : Below w3.heap.size w3 X) => left_any eb E X (hE3.out.below hX)
    replace ke := Lib.hid ke
    replace kl := Lib.hid kl
    replace he := Lib.hid he
    clear hf1 hf3 hfits
    go_wp2_with fail
    refine wp_region_calm_lit (by kernel_rfl) (by kernel_rfl) ?_
    repeat
      first
      | (apply calm_want
         · first | rfl | (go_simp; done)
         · intro X hX
           go_simp
           first
             | done
             | rfl
             | (refine ⟨trivial, ?_⟩; (first | with_reducible exact calls_calm_same hX (ke.out X hX) | with_reducible exact calls_calm_same hX (kl.out X hX)); done)
             | ((first | with_reducible exact calls_calm_same hX (ke.out X hX) | with_reducible exact calls_calm_same hX (kl.out X hX)); done)
         intro K hK
         go_simp
         refine hK _ ?_
         clear hK K)
      | (apply calm_skip
         · first | rfl | (go_simp; done)
         intro K hK
         go_simp
         refine hK _ ?_
         clear hK K)
    refine wpQuiet_nil ?_
    intro X hX
    clear lc0 lc1 ke kl hE3 hx3 e4
    replace hrow := Lib.hid (hrow.out.below hX)
    replace hLm := Lib.hid (hLm.out.below hX)
    replace BW3 := Lib.hid (BW3.out.trans (hX.mono BW3.out.size))
    clear hX
    generalize X = w4 at *
    go_wp2_with fail
    go_loopw [10, 60] (fun _ c wr => ∃ i : Nat, i ≤ L.length ∧ c = .int .i64 i ∧ Hid (Below w4.heap.size w4 wr)) (fun _ c _ => L.length - (intOf c).toNat)
    case atStart => exact ⟨0, by omega, rfl, Lib.hid (Below.refl _ _)⟩
    case round =>
      obtain ⟨i, hi, rfl, HW⟩ := hrel
      by_cases hil : i < L.length
      · have e5 : decide ((i : Int) < (L.length : Int)) = true := decide_eq_true (by omega)
        obtain ⟨m, hm⟩ : ∃ m, L[i]? = some m := ⟨_, List.getElem?_eq_getElem hil⟩
        have hm16 := h16.out m (List.mem_of_getElem? hm)
        obtain ⟨g, o, hpe, _, hld⟩ := (hLm.out.below HW.out).load h16.out hm
        subst hpe
        have hL2 := hld wr (Below.refl _ _)
        have bm := boxedM wr m hm16
        have a1 := bm.a1
        have B5 := HW.out.trans (bm.B.mono HW.out.size)
        replace B5 := Lib.hid B5
        clear bm hld hm HW
        go_wp2_with (first | (refine wpList_load_at rfl _ _ rfl rfl (hL2) ?_) | (refine wpList_store_at rfl _ _ _ rfl rfl rfl (a1) ?_))
        clear hL2 a1
        generalize (wr.alloc (.cells zeroMark 24)).setCells wr.heap.size 0 (m.map byteV) = w5 at *
        generalize wr.heap.size = kx at *
        refine wp_region_calm_lit (by kernel_rfl) (by kernel_rfl) ?_
        repeat
          first
          | (apply calm_want
             · first | rfl | (go_simp; done)
             · intro X hX
               go_simp
               first
                 | done
                 | rfl
                 | (refine ⟨trivial, ?_⟩; (fail); done)
                 | ((fail); done)
             intro K hK
             go_simp
             refine hK _ ?_
             clear hK K)
          | (apply calm_skip
             · first | rfl | (go_simp; done)
             intro K hK
             go_simp
             refine hK _ ?_
             clear hK K)
        refine wpQuiet_nil ?_
        intro X hX
        have B6 := Lib.hid (B5.out.trans (hX.mono B5.out.size))
        clear hX B5
        go_wp2_with fail
        go_roundw
        case rel => exact ⟨i + 1, by omega, by go_num, B6⟩
        case measure => simp [intOf]; omega
      · have e5 : decide ((i : Int) < (L.length : Int)) = false := decide_eq_false (by omega)
        have hX := HW.out
        replace BW3 := Lib.hid (BW3.out.trans (hX.mono BW3.out.size))
        clear hX
        go_wp2_with fail
        go_ret
        exact ⟨rfl, BW3.out⟩
end Go.Proofs.Ytehfinjcfjobeaa
